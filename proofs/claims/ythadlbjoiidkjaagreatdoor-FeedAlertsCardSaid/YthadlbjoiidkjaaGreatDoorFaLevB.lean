
import Derived.RangeFuncNested
import Derived.RangeFuncBound
import Derived.RangeFuncCalls
import Derived.RangeFuncLeaves
import Derived.Shelf.Abstract
import Derived.WalkKit
import Derived.OwnWalkIn
import Derived.TacticsInMore
import Derived.LoopNIn
import Derived.LoopIn
import Derived.Test.YthadlbjoiidkjaaGreatDoorProg
import Derived.Test.YthadlbjoiidkjaaGreatDoorDwLoad
import Derived.Test.YthadlbjoiidkjaaGreatDoorFaEv
import Derived.Test.YthadlbjoiidkjaaGreatDoorFaLaw
import Derived.Test.YthadlbjoiidkjaaGreatDoorDwSort

namespace Go.Proofs
open Go.RowKit Go.Shelf
attribute [local go_sem] Oper.semAt_some
namespace Lev
def upto{α:Type}(f:Nat->α)(k:Nat):List α:=(List.range k).map f
theorem upto_succ{α:Type}(f:Nat->α)(k:Nat):upto f (k+1)=upto f k++[f k]:=by simp [upto,List.range_succ]
theorem upto_length{α:Type}(f:Nat->α)(k:Nat):(upto f k).length=k:=by simp [upto]
structure R4 where
  a:Int
  b:Int
  c:Int
  d:Int
def R4.v(r:R4):Value:= .agg #[.int .i64 r.a,.int .i64 r.b,.int .i64 r.c,.int .i64 r.d]
def R4.z:R4:=⟨0,0,0,0⟩
def Row(W:World)(b off len:Nat)(zs:List R4):Prop:=∀j,j<len->W.cell? ⟨b,off+j*4,none⟩=some (.int .i64 (zs[j]?.getD R4.z).a)∧W.cell? ⟨b,off+j*4+1,none⟩=some (.int .i64 (zs[j]?.getD R4.z).b)∧W.cell? ⟨b,off+j*4+2,none⟩=some (.int .i64 (zs[j]?.getD R4.z).c)∧W.cell? ⟨b,off+j*4+3,none⟩=some (.int .i64 (zs[j]?.getD R4.z).d)
set_option maxRecDepth 100000 in
set_option maxHeartbeats 2000000 in
theorem bw1_in(F:Fence)(n:Nat)(h7:F.fn 145)(hro:F.round=none)(hn:1<=n)(l Bs n₀ b off len cap:Nat)(zs:List R4)(hreach:len<=1000000000)(hb:b<n₀)(J Jx:List (Int×R4)->World->Prop)
    (hY : ∀ pre x W, J pre W → pre.length < len → YieldAt F (n - 1) Tryz.prog l #[.int .i64 x.1, x.2.v] W fun e W' =>
      (e= .returned (.bool true)∧J (pre++[x]) W'∧Below n₀ W W')∨(e= .returned (.bool false)∧Jx (pre++[x]) W'))
    (W:World) (hBs:W.cell? ⟨Bs,0,none⟩=some (.slice (some ⟨b,off,none⟩) len cap)) (hBn:Bs<n₀) (hc:Row W b off len zs) (h0:J [] W):
    CallsIn F n Tryz.prog 145 #[.func (.yield l) #[] #[],.pointer (some ⟨Bs,0,none⟩)] W fun e W'=>(∃v,e= .returned v)∧
      ((∃ys,ys=upto (fun j=>(((len:Int)-1-(j:Int)),zs[len-1-j]?.getD R4.z)) len∧J ys W')∨(∃pre,(∃k,k<=len∧pre=upto (fun j=>(((len:Int)-1-(j:Int)),zs[len-1-j]?.getD R4.z)) k)∧Jx pre W')):=by
  refine callsIn_of_wp Tryz.func145 rfl h7 ?_ hro
  simp only [Tryz.ntmps145,List.size_toArray,List.length_cons,List.length_nil,Nat.reduceAdd,Nat.reduceSub,Array.replicate_succ,Array.replicate_zero,List.push_toArray,List.append_toArray,List.nil_append,List.cons_append]
  gi_wp2
  gi_loopw [3] (fun i wr=>∃k:Nat,k<=len∧i= .int .i64 ((len:Int)-1-(k:Int))∧J (upto (fun j=>(((len:Int)-1-(j:Int)),zs[len-1-j]?.getD R4.z)) k) wr∧Below n₀ W wr)
    (fun i _=>(intOf i+1).toNat)
  case atStart=>exact⟨0,Nat.zero_le _,by simp,h0,Below.refl _ _⟩
  case round=>
    obtain⟨k,hk,rfl,hJs,hnx⟩:=hrel
    by_cases hlt:k<len
    · obtain⟨j,hkj⟩:∃j:Nat,k+j+1=len:=⟨len-1-k,by omega⟩
      have hjl:j<len:=by omega
      have hzj:zs[len-1-k]? =zs[j]? :=by rw [show len-1-k=j by omega]
      obtain⟨c0,c1,c2,c3⟩:=hc j hjl
      replace c0:=(hnx.cell (p:=⟨b,off+j*4,none⟩) hb).trans c0
      replace c1:=(hnx.cell (p:=⟨b,off+j*4+1,none⟩) hb).trans c1
      replace c2:=(hnx.cell (p:=⟨b,off+j*4+2,none⟩) hb).trans c2
      replace c3:=(hnx.cell (p:=⟨b,off+j*4+3,none⟩) hb).trans c3
      have hBs':=(hnx.cell (p:=⟨Bs,0,none⟩) hBn).trans hBs
      obtain⟨fn,tmps,assign,body,hy,hR⟩:=hY _ ((j:Int),zs[j]?.getD R4.z) wr hJs (by rw [upto_length];exact hlt)
      dsimp only [R4.v]at hy
      rw [show(len:Int)-1-(k:Int)=(j:Int)by omega]
      gi_wp2
      refine hR.mono ?_
      rintro e W3 (⟨rfl,hJ3,hk3⟩|⟨rfl,hJx3⟩)
      · gi_wp2
        go_roundw
        case rel=>exact⟨k+1,by omega,by simp;omega,by rw [upto_succ,hzj,show(len:Int)-1-(k:Int)=(j:Int)by omega];exact hJ3,hnx.trans hk3⟩
        case measure=>simp [intOf]
      · gi_wp2
        refine bodyPost_ret (results_none rfl _ _ _) rfl ?_
        exact⟨⟨_,rfl⟩,.inr ⟨_,⟨k+1,by omega,by rw [upto_succ,hzj,show(len:Int)-1-(k:Int)=(j:Int)by omega]⟩,hJx3⟩⟩
    · obtain rfl:k=len:=by omega
      rw [show(k:Int)-1-(k:Int)= -1 by omega]
      gi_wp2
      go_end0
      exact⟨⟨_,rfl⟩,.inl ⟨_,rfl,hJs⟩⟩
theorem bw1_nil_in(F:Fence)(n:Nat)(h7:F.fn 145)(hro:F.round=none)(l Bs:Nat)(ad:Option Addr)(cap:Nat)(J:List (Int×R4)->World->Prop)(W:World)(hBs:W.cell? ⟨Bs,0,none⟩=some (.slice ad 0 cap))(h0:J [] W):
    CallsIn F n Tryz.prog 145 #[.func (.yield l) #[] #[],.pointer (some ⟨Bs,0,none⟩)] W fun e W'=>(∃v,e= .returned v)∧J [] W':=by
  refine callsIn_of_wp Tryz.func145 rfl h7 ?_ hro
  simp only [Tryz.ntmps145,List.size_toArray,List.length_cons,List.length_nil,Nat.reduceAdd,Nat.reduceSub,Array.replicate_succ,Array.replicate_zero,List.push_toArray,List.append_toArray,List.nil_append,List.cons_append]
  gi_wp2
  gi_loopw [3] (fun i wr=>i= .int .i64 (-1)∧J [] wr) (fun _ _=>0)
  case atStart=>exact⟨rfl,h0⟩
  case round=>
    obtain⟨rfl,hJs⟩:=hrel
    gi_wp2
    go_end0
    exact⟨⟨_,rfl⟩,hJs⟩
theorem bw_in(F:Fence)(n:Nat)(h5:F.fn 76)(hro:F.round=none)(a:Option Addr)(len cap:Nat)(w:World):
    CallsIn F n Tryz.prog 76 #[.slice a len cap] w fun e w'=>e= .returned (.func (.func 145) #[] #[.pointer (some ⟨w.heap.size,0,none⟩)])∧w'=w.alloc (.cells #[.slice a len cap] 27):=by
  refine callsIn_of_wp Tryz.func76 rfl h5 ?_ hro
  simp only [Tryz.ntmps76,List.size_toArray,List.length_cons,List.length_nil,Nat.reduceAdd,Nat.reduceSub,Array.replicate_succ,Array.replicate_zero,List.push_toArray,List.append_toArray,List.nil_append,List.cons_append]
  gi_wp2
  go_ret
  exact⟨rfl,rfl⟩
def iH(n₀:Nat)(W:World)(sv:Value)(zs:List R4):Prop:=
  (∃a c,sv= .slice a 0 c∧zs=[])∨∃b off cap,sv= .slice (some ⟨b,off,none⟩) zs.length cap∧b<n₀∧Row W b off zs.length zs
theorem iH.iJ{n₀:Nat}{A B:World}(h:Below n₀ A B){sv:Value}{zs:List R4}:iH n₀ A sv zs->iH n₀ B sv zs
  | .inl e=>.inl e
  | .inr ⟨b,off,cap,e,hb,hc⟩=>.inr ⟨b,off,cap,e,hb,fun j hj=>⟨(h.cell (p:=⟨b,off+j*4,none⟩) hb).trans (hc j hj).1,(h.cell (p:=⟨b,off+j*4+1,none⟩) hb).trans (hc j hj).2.1,(h.cell (p:=⟨b,off+j*4+2,none⟩) hb).trans (hc j hj).2.2.1,(h.cell (p:=⟨b,off+j*4+3,none⟩) hb).trans (hc j hj).2.2.2⟩⟩
def back(zs:List R4)(k:Nat):List (Int×R4):=upto (fun j=>(((zs.length:Int)-1-(j:Int)),zs[zs.length-1-j]?.getD R4.z)) k
theorem bw_stops(F:Fence)(n:Nat)(h7:F.fn 145)(hro:F.round=none)(hn:1<=n)(Bs n₀:Nat)(sv:Value)(zs:List R4)(hreach:zs.length<=1000000000)(w:World)(hBs:Bs<n₀)(hn₀:n₀<=w.heap.size)
    (hc:w.cell? ⟨Bs,0,none⟩=some sv) (hI:iH n₀ w sv zs):
    SeqStopsK F n Tryz.prog 145 #[.pointer (some ⟨Bs,0,none⟩)] (fun x:Int×R4=> #[Value.int .i64 x.1,x.2.v]) (Below n₀) (fun ys=>ys=back zs zs.length)
      (fun pre=>∃k,k<=zs.length∧pre=back zs k) zs.length w:=fun l J Jx W hW _ _ hY h0=>by
  have hc':=(hW.cell (p:=⟨Bs,0,none⟩) (Nat.lt_of_lt_of_le hBs hn₀)).trans hc
  rcases hI.iJ (hW.mono hn₀)with⟨a,c,rfl,rfl⟩|⟨b,off,cap,rfl,hb,hcs⟩
  · exact(bw1_nil_in F n h7 hro l Bs a c J W hc' h0).mono fun e W'⟨he,hj⟩=>⟨he,.inl ⟨_,rfl,hj⟩⟩
  · exact bw1_in F n h7 hro hn l Bs n₀ b off zs.length cap zs hreach hb J Jx hY W hc' hBs hcs h0
def d9(W:World)(B:Nat)(t:TypeId)(a:Array Value):Prop:=W.heap[B]? =some (.cells a t (0,0))
theorem d9.lt{W:World}{B:Nat}{t:TypeId}{v:Array Value}(h:d9 W B t v):B<W.heap.size:=(Array.getElem?_eq_some_iff.1 h).1
theorem d9.new(W:World)(t:TypeId)(v:Array Value):d9 (W.alloc (.cells v t)) W.heap.size t v:=World.alloc_heap_new W _
theorem d9.kept{W W':World}{row:Option Nat}{B:Nat}{t:TypeId}{v:Array Value}(h:d9 W B t v)(hg:W.grownBy W' row)(hne:some B≠row):d9 W' B t v:=(hg.block B h.lt hne).trans h
theorem d9.alloc{W:World}{B:Nat}{t:TypeId}{v:Array Value}(h:d9 W B t v)(o:Obj):d9 (W.alloc o) B t v:=h.kept (World.grownBy_alloc W o none) (by simp)
theorem d9.iJ{W W':World}{n₀ B:Nat}{t:TypeId}{v:Array Value}(h:d9 W B t v)(hb:Below n₀ W W')(hB:B<n₀):d9 W' B t v:=(hb.block B hB).trans h
theorem d9.cell{W:World}{B:Nat}{t:TypeId}{a:Array Value}(h:d9 W B t a)(k:Nat)(v:Value)(hk:a[k]? =some v):W.cell? ⟨B,k,none⟩=some v:=by simp [World.cell?,show W.heap[B]? =_ from h,hk]
theorem d9.frozen{W:World}{B:Nat}{t:TypeId}{a:Array Value}(h:d9 W B t a)(k:Nat):W.frozen? ⟨B,k,none⟩=false:=by simp [World.frozen?,show W.heap[B]? =_ from h]
theorem iK{β:Type}(B:Nat)(t:TypeId)(f:β->Array Value):Own (fun s W=>d9 W B t (f s)):=fun s X Y row hs hg hrow=>
  hs.kept hg (fun e'=>by obtain⟨o,ho,hc⟩:=hrow B e'.symm;rw [show X.heap[B]? =_ from hs]at ho;cases ho;cases hc)
theorem iH.mono{n₀ n₁:Nat}(hn:n₀<=n₁){W:World}{sv:Value}{zs:List R4}:iH n₀ W sv zs->iH n₁ W sv zs
  | .inl e=>.inl e
  | .inr ⟨b,off,cap,e,hb,hc⟩=>.inr ⟨b,off,cap,e,Nat.lt_of_lt_of_le hb hn,hc⟩
theorem d9.load{P:Program}{W:World}{B:Nat}{t t':TypeId}{a:Array Value}(h:d9 W B t' a)(hk:Dw.lI P t=some (true,a.size)):(Instr.loadAt t (.pointer (some ⟨B,0,none⟩))).run P W= .ok (.agg a) W:=by
  have:=Dw.mZ (P:=P) (w:=W) (ad:=⟨B,0,none⟩) (vs:=a.toList) hk (by simp) (fun j v hj=>by rw [Dw.kf,Nat.zero_add];exact h.cell j v (by simpa using hj))
  simpa [Instr.loadAt,Instr.sureAddr]using this
theorem wpListIn_loadK{F:Fence}{n:Nat}{P:Program}{w:World}{ops:Array Oper}{rest:List Oper}{o:Oper}{a:Act}{Q:Exit->Act->World->Prop}
    (hg:o.guard=none) (t:TypeId) (x:Operand) (hop:o.op= .load t x) (vx:Value) (hx:a.eval x=vx) (v:Value) (hr:(Instr.loadAt t vx).run P w= .ok v w)
    (hK:wpListIn F n P ops Q rest (a.put o.dst v) w):wpListIn F n P ops Q (o::rest) a w:=by
  refine wpListIn_plain hg fun K hK'=>?_
  unfold Oper.wpIn
  refine⟨?_,?_⟩
  · simp [Oper.about,hop]
  · rw [Oper.semAt_plain F _ _ (by rw [hop];intro c hc';cases hc')]
    simp [execOp,hop,hx,hr,Result.andThen]
    exact hK' _ _ hK
def Lv(rv:Int)(mb:R4->Bool)(zs:List R4)(r:Int):Prop:=
  (rv≠0∧r=0)∨(rv=0∧r=0∧∀j,j<zs.length->mb (zs[j]?.getD R4.z)=false)∨(rv=0∧∃k:Nat,k<zs.length∧r=(k:Int)+1∧mb (zs[k]?.getD R4.z)=true∧∀j,k<j->j<zs.length->mb (zs[j]?.getD R4.z)=false)
set_option maxRecDepth 100000 in
set_option maxHeartbeats 4000000 in
theorem level_in(n:Nat)(hn:3<=n)(w:World)(sl:Value)(dI eI rv:Int)(zs:List R4)(hz:rv=0->zs.length<=1000000000)(mb:R4->Bool)
    (e0 e1 e2 e3 e4 e5 e6 e7 e8 e9 e10 e11 e12 e13 e14 e15 e16 e17 e18 e19 e20 e21 e22 e23 e24:Value) (hI:iH w.heap.size w sl zs)
    (hval:∀m W,Below w.heap.size w W->CallsIn Fence.wide m Tryz.prog 68 #[.agg #[sl,.int .i64 dI,.int .i64 eI]] W fun e W'=>e= .returned (.int .i64 rv)∧Below W.heap.size W W')
    (hmeets:∀m W(x:R4),Below w.heap.size w W->CallsIn Fence.wide m Tryz.prog 77 #[x.v,.agg #[e0,e1,e2,e3,e4,e5,e6,e7,e8,e9,e10,e11,e12,e13,e14,e15,e16,e17,e18,e19,e20,e21,e22,e23,e24]] W fun e W'=>e= .returned (.bool (mb x))∧Below W.heap.size W W'):
    CallsIn Fence.wide n Tryz.prog 31 #[.agg #[sl,.int .i64 dI,.int .i64 eI],.agg #[e0,e1,e2,e3,e4,e5,e6,e7,e8,e9,e10,e11,e12,e13,e14,e15,e16,e17,e18,e19,e20,e21,e22,e23,e24]] w fun e W'=>∃r,e= .returned (.int .i64 r)∧Lv rv mb zs r∧Below w.heap.size w W':=by
  have h1:1<=n:=by omega
  obtain⟨ad,sc,rfl⟩:∃ad sc,sl= .slice ad zs.length sc:=by
    rcases hI with⟨a,c,rfl,rfl⟩|⟨b,off,cap,rfl,_,_⟩
    · exact⟨_,_,rfl⟩
    · exact⟨_,_,rfl⟩
  refine callsIn_of_wp_marks Tryz.func31 rfl trivial ?_ rfl
  simp only [Tryz.ntmps31,List.size_toArray,List.length_cons,List.length_nil,Nat.reduceAdd,Nat.reduceSub,Array.replicate_succ,Array.replicate_zero,List.push_toArray,List.append_toArray,List.nil_append,List.cons_append]
  have hB0:Below w.heap.size w (((w.alloc (.cells #[.slice ad zs.length sc,.int .i64 dI,.int .i64 eI] 29)).alloc (.cells #[e0,e1,e2,e3,e4,e5,e6,e7,e8,e9,e10,e11,e12,e13,e14,e15,e16,e17,e18,e19,e20,e21,e22,e23,e24] 57)).alloc (.cells #[.int .i64 0] 3)):=(((Below.refl _ w).alloc (Nat.le_refl _) _).alloc (by simp) _).alloc (by simp;omega) _
  have bP:=((d9.new w 29 #[.slice ad zs.length sc,.int .i64 dI,.int .i64 eI]).alloc (.cells #[e0,e1,e2,e3,e4,e5,e6,e7,e8,e9,e10,e11,e12,e13,e14,e15,e16,e17,e18,e19,e20,e21,e22,e23,e24] 57)).alloc (.cells #[.int .i64 0] 3)
  have bE:=(d9.new (w.alloc (.cells #[.slice ad zs.length sc,.int .i64 dI,.int .i64 eI] 29)) 57 #[e0,e1,e2,e3,e4,e5,e6,e7,e8,e9,e10,e11,e12,e13,e14,e15,e16,e17,e18,e19,e20,e21,e22,e23,e24]).alloc (.cells #[.int .i64 0] 3)
  have bR:=d9.new ((w.alloc (.cells #[.slice ad zs.length sc,.int .i64 dI,.int .i64 eI] 29)).alloc (.cells #[e0,e1,e2,e3,e4,e5,e6,e7,e8,e9,e10,e11,e12,e13,e14,e15,e16,e17,e18,e19,e20,e21,e22,e23,e24] 57)) 3 #[.int .i64 0]
  simp only [World.size_alloc]at bE bR
  gi_wp2_with (first|(refine⟨trivial,?_⟩;gi_at_call 68;refine(hval _ _ hB0).mono ?_;rintro e w' ⟨rfl,hB1⟩;replace hB0:=hB0.trans (hB1.mono hB0.size);replace bP:=bP.iJ hB1 bP.lt;replace bE:=bE.iJ hB1 bE.lt;replace bR:=bR.iJ hB1 bR.lt;have p0:=bP.cell 0 _ (by rfl);have r0:=bR.cell 0 (.int .i64 0) rfl;have r1:=bR.frozen 0)|(refine⟨trivial,?_⟩;gi_at_call 76;refine(bw_in Fence.wide _ trivial rfl ad zs.length sc _).mono ?_;rintro e w2 ⟨rfl,rfl⟩))
  · rename_i hq
    have hne:rv≠0:=by simpa using hq
    refine⟨.int .i64 0,?_,0,rfl,.inl ⟨hne,rfl⟩,hB0.setCell (p:=⟨w.heap.size+1+1,0,none⟩) (by simp;omega) _⟩
    have hc:=World.cell?_setCell_same' w' ⟨w.heap.size+1+1,0,none⟩ (.int .i64 0) (by rw [r0];rfl)
    simp [results,Tryz.f31,go_sem,hc]
  · have hq0:(rv != 0)=false:=by assumption
    replace hz:=hz (by simpa using hq0)
    have bS:=d9.new w' 27 #[.slice ad zs.length sc]
    have hB2:=hB0.alloc hB0.size (.cells #[.slice ad zs.length sc] 27)
    replace bE:=bE.alloc (.cells #[.slice ad zs.length sc] 27)
    replace bR:=bR.alloc (.cells #[.slice ad zs.length sc] 27)
    have hsz:(w'.alloc (.cells #[.slice ad zs.length sc] 27)).heap.size=w'.heap.size+1:=by simp
    obtain⟨W0,hW0⟩:∃W0,w'.alloc (.cells #[.slice ad zs.length sc] 27)=W0:=⟨_,rfl⟩
    rw [hW0]at bE bR bS hB2 hsz⊢
    clear hW0
    refine wpIn_rangeFunc_ownH rfl h1 (gf:=145) (lb:= #[.pointer (some ⟨w'.heap.size,0,none⟩)]) rfl trivial (enters_of Tryz.func145 (by kernel_rfl) rfl)
      (bw_stops Fence.wide (n-1) trivial rfl (by omega) w'.heap.size W0.heap.size (.slice ad zs.length sc) zs hz W0 (by omega) (Nat.le_refl _) (bS.cell 0 _ rfl) ((hI.iJ hB2).mono hB2.size)) belowK_t (belowK_b (Nat.le_refl _)) (Below.refl _ _) (fun _=>rfl)
      (fun pre W=>((d9 W (w.heap.size+1) 57 #[e0,e1,e2,e3,e4,e5,e6,e7,e8,e9,e10,e11,e12,e13,e14,e15,e16,e17,e18,e19,e20,e21,e22,e23,e24]∧d9 W (w.heap.size+1+1) 3 #[.int .i64 0])∧∀p∈pre,mb p.2=false)∧(Below w.heap.size w W∧W0.heap.size<=W.heap.size))
      (fun c pre W=>((c= .ret∧∃ini last,pre=ini++[last]∧(∀p∈ini,mb p.2=false)∧mb last.2=true∧d9 W (w.heap.size+1+1) 3 #[.int .i64 (wrap64 (last.1+1))]))∧Below w.heap.size w W)
      ?hI ?hIx ⟨⟨⟨bE,bR⟩,by simp⟩,hB2,Nat.le_refl _⟩
      (fun x a' W=>∃Bx,d9 W Bx 96 #[.int .i64 x.2.a,.int .i64 x.2.b,.int .i64 x.2.c,.int .i64 x.2.d]∧a'={ tmps:= #[.agg #[.slice ad zs.length sc,.int .i64 dI,.int .i64 eI],.agg #[e0,e1,e2,e3,e4,e5,e6,e7,e8,e9,e10,e11,e12,e13,e14,e15,e16,e17,e18,e19,e20,e21,e22,e23,e24],.pointer (some ⟨w.heap.size,0,none⟩),.pointer (some ⟨w.heap.size+1,0,none⟩),.pointer (some ⟨w.heap.size+1+1,0,none⟩),.int .i64 x.1,.pointer (some ⟨Bx,0,none⟩),.agg #[.slice ad zs.length sc,.int .i64 dI,.int .i64 eI],.int .i64 rv,.bool false,.pointer (some ⟨w.heap.size,0,none⟩),.slice ad zs.length sc,.func (.func 145) #[] #[.pointer (some ⟨w'.heap.size,0,none⟩)],.int .i64 x.1,x.2.v,undef,undef,undef,undef,undef],defers:=[] })
      ?hAx ?assign ?body ?done ?stop
    case hI=>
      exact OwnFrom.and (Own.from (fun s A B row hs hg hr=>⟨⟨iK (β:=Unit) _ _ (fun _=>_) () A B row hs.1.1 hg hr,iK (β:=Unit) _ _ (fun _=>_) () A B row hs.1.2 hg hr⟩,hs.2⟩) _) (OwnFrom.and (ownFrom_below (Nat.le_refl _) (by have:=hB2.size;omega)) (fun _ _ _ _ hs hg _=>Nat.le_trans hs hg.size))
    case hIx=>
      exact fun c => OwnFrom.and (Own.from (fun s A B row hs hg hr => by
        obtain⟨hc,ini,last,e1,e2,e3,e4⟩:=hs
        exact⟨hc,ini,last,e1,e2,e3,iK (β:=Unit) _ _ (fun _=>_) () A B row e4 hg hr⟩) _) (ownFrom_below (Nat.le_refl _) (by have:=hB2.size;omega))
    case hAx=>
      exact fun x a' => Own.from (fun s A B row hs hg hr => by
        obtain⟨Bx,e1,e2⟩:=hs
        exact⟨Bx,iK (β:=Unit) _ _ (fun _=>_) () A B row e1 hg hr,e2⟩) _
    case assign=>
      rintro l pre x W K ⟨⟨⟨hE,hR⟩,hp⟩,hB,hsW⟩ hK
      simp only [R4.v]
      gi_wp2
      exact hK _ _ ((KeepsOthers.alloc _ _).from _) ((Below.refl _ W).alloc hsW _) ⟨⟨⟨hE.alloc _,hR.alloc _⟩,hp⟩,hB.alloc hB.size _,by simp;omega⟩ ⟨W.heap.size,d9.new W 96 _,rfl⟩
    case body=>
      rintro l pre x a' W hl ⟨r,hr⟩ ⟨⟨⟨hE,hR⟩,hp⟩,hB,hsW⟩ ⟨Bx,hX,rfl⟩ hlen
      have h2:1<=n-1-1:=by omega
      have hm:CallsIn (Fence.wide.inRound l) (n-1-1-1) Tryz.prog 77 #[.agg #[.int .i64 x.2.a,.int .i64 x.2.b,.int .i64 x.2.c,.int .i64 x.2.d],.agg #[e0,e1,e2,e3,e4,e5,e6,e7,e8,e9,e10,e11,e12,e13,e14,e15,e16,e17,e18,e19,e20,e21,e22,e23,e24]] W (fun e W'=>e= .returned (.bool (mb x.2))∧Below W.heap.size W W'):=hmeets (n-1-1-1) W x.2 hB
      have x0:=hX.cell 0 (.int .i64 x.2.a) rfl
      have x1:=hX.cell 1 (.int .i64 x.2.b) rfl
      have x2:=hX.cell 2 (.int .i64 x.2.c) rfl
      have x3:=hX.cell 3 (.int .i64 x.2.d) rfl
      simp only [R4.v]
      gi_wp2_with (first|(refine wpListIn_loadK rfl 57 (.tmp 3) rfl (.pointer (some ⟨w.heap.size+1,0,none⟩)) rfl _ (hE.load (by kernel_rfl)) ?_)|(refine⟨trivial,?_⟩;gi_at_call 77;refine hm.mono ?_;rintro e w3 ⟨rfl,hB3⟩;replace hE:=hE.iJ hB3 hE.lt;replace hR:=hR.iJ hB3 hR.lt;have r0:=hR.cell 0 (.int .i64 0) rfl;have r1:=hR.frozen 0))
      · have hx:mb x.2=true:=by assumption
        have hkf:KeepsFrom W0.heap.size W w3:=⟨hB3.size,fun k o _ hk _=>(hB3.block k (Array.getElem?_eq_some_iff.1 hk).1).trans hk⟩
        refine⟨hkf.trans ((KeepsOthers.setCell _ _ _).from _),⟨rfl,pre,x,rfl,hp,hx,?_⟩,(hB.trans (hB3.mono hB.size)).setCell (p:=⟨w.heap.size+1+1,0,none⟩) (by simp;omega) _⟩
        exact Boxed.set _ (show Boxed w3 (w.heap.size+1+1) 3 (.int .i64 0)from hR)
      · have hx:mb x.2=false:=by assumption
        have hkf:KeepsFrom W0.heap.size W w3:=⟨hB3.size,fun k o _ hk _=>(hB3.block k (Array.getElem?_eq_some_iff.1 hk).1).trans hk⟩
        refine⟨hkf,hB3.mono hsW,⟨⟨⟨hE,hR⟩,fun p hp'=>?_⟩,hB.trans (hB3.mono hB.size),Nat.le_trans hsW hB3.size⟩⟩
        rcases List.mem_append.1 hp' with h|h
        · exact hp p h
        · obtain rfl:=List.mem_singleton.1 h
          exact hx
    case done=>
      rintro D ys W hD rfl ⟨⟨⟨hE,hR⟩,hp⟩,hB,hsW⟩ hK
      have r0:=hR.cell 0 (.int .i64 0) rfl
      have r1:=hR.frozen 0
      gi_wp2
      have hK':=(KeepsOthers.setCell W ⟨w.heap.size+1+1,0,none⟩ (.int .i64 0)).same D _ hK rfl
      refine⟨by simp,.inl ⟨_,_,rfl,run_takeDeferred hK',?_⟩⟩
      have hc5:=cell_kept (World.cell?_setCell_same' W ⟨w.heap.size+1+1,0,none⟩ (.int .i64 0) (by rw [r0];rfl)) (grownBy_putObj' _ D (.deferred none)) (fun r e=>by cases e;exact⟨_,hK',rfl⟩)
      refine⟨.int .i64 0,?_,0,rfl,.inr (.inl ⟨by simpa using hq0,rfl,fun j hj=>?_⟩),(hB.setCell (p:=⟨w.heap.size+1+1,0,none⟩) (by simp;omega) _).trans (belowK_b (w:=w) (Nat.le_refl _) _ D _ _ (by have:=hB2.size;omega) hK' rfl rfl)⟩
      · simp [results,Tryz.f31,go_sem,hc5]
      · have := hp (((zs.length : Int) - 1 - ((zs.length - 1 - j : Nat) : Int)), zs[zs.length - 1 - (zs.length - 1 - j)]?.getD R4.z) (by
          simp only [back,upto,List.mem_map,List.mem_range]
          exact⟨zs.length-1-j,by omega,rfl⟩)
        simp only at this
        rwa [show zs.length-1-(zs.length-1-j)=j by omega]at this
    case stop=>
      rintro D c pre W hD ⟨k,hk,rfl⟩ ⟨⟨rfl,ini,last,g1,g2,g3,hR⟩,hB⟩ hK
      gi_wp2
      refine⟨by simp,.inl ⟨_,_,rfl,run_takeDeferred hK,?_⟩⟩
      have hc5:=cell_kept (d9.cell hR 0 (.int .i64 (wrap64 (last.1+1))) rfl) (grownBy_putObj' _ D (.deferred none)) (fun r e=>by cases e;exact⟨_,hK,rfl⟩)
      obtain⟨k',rfl⟩:∃k',k=k'+1:=by
        cases k with
        |zero=>simp [back,upto]at g1
        |succ k'=>exact⟨k',rfl⟩
      unfold back at g1
      rw [upto_succ]at g1
      obtain⟨rfl,e5⟩:=List.append_inj' g1 rfl
      obtain rfl:(((zs.length:Int)-1-(k':Int)),zs[zs.length-1-k']?.getD R4.z)=last:=by simpa using e5
      simp only at hc5 g3
      have hwr:wrap64 ((zs.length:Int)-1-(k':Int)+1)=((zs.length-1-k':Nat):Int)+1:=by unfold wrap64;omega
      rw [hwr]at hc5
      refine⟨.int .i64 (((zs.length-1-k':Nat):Int)+1),?_,_,rfl,.inr (.inr ⟨by simpa using hq0,zs.length-1-k',by omega,rfl,g3,fun j h1 h2=>?_⟩),hB.trans (belowK_b (w:=w) (Nat.le_refl _) W D _ _ (by have:=hB2.size;omega) hK rfl rfl)⟩
      · simp [results,Tryz.f31,go_sem,hc5]
      · have := g2 (((zs.length : Int) - 1 - ((zs.length - 1 - j : Nat) : Int)), zs[zs.length - 1 - (zs.length - 1 - j)]?.getD R4.z) (by
          simp only [upto,List.mem_map,List.mem_range]
          exact⟨zs.length-1-j,by omega,rfl⟩)
        simp only at this
        rwa [show zs.length-1-(zs.length-1-j)=j by omega]at this
end Lev
end Go.Proofs
set_option maxRecDepth 100000
set_option maxHeartbeats 4000000
namespace Go.Dw.Fa
open Go.Proofs Go.RowKit Go.Dw
theorem lev_mixed:Tryz.prog.follows .mixedOrders=true:=by kernel_rfl
def toR(r:aK):Lev.R4:=⟨r.av,r.aB,r.aQ,r.bn⟩
def ofR(x:Lev.R4):aK:=⟨x.a,x.b,x.c,x.d⟩
theorem data_call{f:FuncId}{args:List RV}{vs:Array Value}{r:RV}(hok:∀base,kr Tryz.prog base f args [] r [])(he:Dw.Enters Tryz.prog f){S:iW}{W:World}(himm:∀ad v,S ad=some v->W.cell? ad=some v)(hone:∀ad v,S ad=some v->v.oneCell'=true)
    (hlen:args.length=vs.size) (harg:∀(i:Nat)a v,args[i]? =some a->vs[i]? =some v->R S (look []) a v) (m:Nat):
    CallsIn Fence.wide m Tryz.prog f vs W fun e W'=>∃v,e= .returned v∧(∃S' ls',R S' (look ls') r v)∧Below W.heap.size W W':=by
  refine callsIn_wide.2 ?_
  have h:=hok ⟨fun _=>none,True,[]⟩ S W [] vs ⟨(fun id bx h=>by cases h),(fun id L h=>by cases h),himm,hone,(fun id L b h=>by cases h),(fun id id' L L' b h=>by cases h)⟩ rfl (fun a v h=>by cases h) (fun x hx=>by cases hx) hlen harg
  refine(h.calls he).mono ?_
  rintro e w' ⟨v,rfl,S',ls',hA⟩
  exact⟨v,rfl,⟨S',ls',hA.res⟩,⟨hA.frame.os,hA.frame.tape,hA.frame.output,hA.frame.size,fun b hb=>hA.frame.block b hb (by simp [pq])⟩⟩
theorem V.int_eq{S:iW}{k:IntKind}{n:Int}{v:Value}(h:V S (.int k n) v):v= .int k n:=by cases h;rfl
theorem isRow_of{S:iW}{W:World}{sl:Value}{l:List aK}(himm:∀ad v,S ad=some v->W.cell? ad=some v)(h:V S (.lst (l.map aK.pd)) sl):Lev.iH W.heap.size W sl (l.map toR):=by
  generalize hes:l.map aK.pd=es at h
  cases h with
  |nil a c=>
    obtain rfl:l=[]:=List.map_eq_nil_iff.1 hes
    exact .inl ⟨a,c,rfl,rfl⟩
  |lst es b o c sz f hc hsz hS hV=>
    subst hes
    by_cases hl:l=[]
    · subst hl
      exact .inl ⟨some ⟨b,o,none⟩,c,by simp,rfl⟩
    · have hpos:0<l.length:=List.length_pos_iff.2 hl
      have hget:∀j(hj:j<l.length),(l.map aK.pd)[j]? =some (aK.pd l[j]):=fun j hj=>by simp [hj]
      obtain rfl:sz=4:=(hsz _ (List.mem_of_getElem? (hget 0 hpos))).symm
      have cell:∀j(hj:j<l.length)(k:Nat)(n:Int),(aK.pd l[j]).cells[k]? =some (.int .i64 n)->W.cell? ⟨b,o+j*4+k,none⟩=some (.int .i64 n):=fun j hj k n hk=>by
        have h1:=hS j _ k _ (hget j hj) hk
        have h2:=V.int_eq (hV j _ k _ (hget j hj) hk)
        rw [h2]at h1
        exact himm _ _ h1
      have hb:b<W.heap.size:=kq (cell 0 hpos 0 _ rfl)
      refine .inr ⟨b,o,c,by simp,hb,fun j hj=>?_⟩
      have hj':j<l.length:=by simpa using hj
      have hz:((l.map toR)[j]?.getD Lev.R4.z)=toR l[j]:=by simp [hj']
      rw [hz]
      exact⟨cell j hj' 0 _ rfl,cell j hj' 1 _ rfl,cell j hj' 2 _ rfl,cell j hj' 3 _ rfl⟩
theorem rule_val{S:iW}(x:Lev.R4):V S (aK.pd (ofR x)) x.v:=by
  refine .agg _ _ rfl (fun i p v h1 h2=>?_)
  match i with
  |0=>cases h1;cases h2;exact .int _ _
  |1=>cases h1;cases h2;exact .int _ _
  |2=>cases h1;cases h2;exact .int _ _
  |3=>cases h1;cases h2;exact .int _ _
  |i+4=>cases h1
noncomputable def mb (e:ai) (x:Lev.R4):Bool:=(dw (ofR x) e).getD false
theorem levelL_lv(e:ai):∀(l:List aK)(n:Int),levelL e l=some n->Lev.Lv 0 (mb e) (l.map toR) n
  | [],n,h=>by cases h;exact .inr (.inl ⟨rfl,rfl,fun j hj=>by simp at hj⟩)
  |x::l,n,h=>by
    unfold levelL at h
    obtain⟨m,hm,h⟩:=Option.bind_eq_some_iff.1 h
    have ih:=levelL_lv e l m hm
    have hs:∀j,((x::l).map toR)[j+1]?.getD Lev.R4.z=(l.map toR)[j]?.getD Lev.R4.z:=fun j=>by simp
    have hx0:((x::l).map toR)[0]?.getD Lev.R4.z=toR x:=by simp
    rcases ih with⟨h0, -⟩|⟨-,h0,hall⟩|⟨-,k,hk,h0,h1,h2⟩
    · exact(h0 rfl).elim
    · subst h0
      rw [if_neg (by simp)]at h
      obtain⟨b,hb,h⟩:=Option.bind_eq_some_iff.1 h
      have hmb:mb e (toR x)=b:=by
        show(dw x e).getD false=b
        rw [hb];rfl
      cases b with
      |true=>
        cases h
        refine .inr (.inr ⟨rfl,0,by simp,rfl,by rw [hx0];exact hmb,fun j hj hl=>?_⟩)
        obtain⟨j,rfl⟩:∃i,j=i+1:=⟨j-1,by omega⟩
        rw [hs];exact hall j (by simpa using hl)
      |false=>
        cases h
        refine .inr (.inl ⟨rfl,rfl,fun j hl=>?_⟩)
        cases j with
        |zero=>rw [hx0];exact hmb
        |succ j=>rw [hs];exact hall j (by simpa using hl)
    · rw [if_pos (by simp;omega)]at h
      cases h
      refine .inr (.inr ⟨rfl,k+1,by simpa using hk,by omega,by rw [hs];exact h1,fun j hj hl=>?_⟩)
      obtain⟨j,rfl⟩:∃i,j=i+1:=⟨j-1,by omega⟩
      rw [hs];exact h2 j (by omega) (by simpa using hl)
theorem lv_one{rv:Int}{f:Lev.R4->Bool}{zs:List Lev.R4}{a b:Int}(h:Lev.Lv rv f zs a)(h':Lev.Lv rv f zs b):a=b:=by
  rcases h with⟨h0,rfl⟩|⟨h0,rfl,h1⟩|⟨h0,k,hk,rfl,h1,h2⟩<;>rcases h' with⟨g0,rfl⟩|⟨g0,rfl,g1⟩|⟨g0,k',hk',rfl,g1,g2⟩<;>first|rfl|(exfalso;omega)|skip
  · have:=h1 k' hk';rw [g1]at this;cases this
  · have:=g1 k hk;rw [h1]at this;cases this
  · rcases Nat.lt_trichotomy k k' with h|h|h
    · have:=h2 k' h hk';rw [g1]at this;cases this
    · subst h;rfl
    · have:=g2 k h hk;rw [h1]at this;cases this
theorem enters31:Dw.Enters Tryz.prog 31:=⟨Tryz.f31,Tryz.func31,by decide+kernel,by kernel_rfl⟩
theorem enters68:Dw.Enters Tryz.prog 68:=⟨Tryz.f68,Tryz.func68,by decide+kernel,by kernel_rfl⟩
theorem enters77:Dw.Enters Tryz.prog 77:=⟨Tryz.f77,Tryz.func77,by decide+kernel,by kernel_rfl⟩
theorem policy_val{S:iW}{p:aC}{v:Value}(h:V S p.pd v):∃sl,v= .agg #[sl,.int .i64 p.aZ,.int .i64 p.bI]∧V S (.lst (p.bA.map aK.pd)) sl:=by
  replace h:V S (.agg [.lst (p.bA.map aK.pd),.int .i64 p.aZ,.int .i64 p.bI]) v:=h
  cases h with
  |agg cs vs hl h=>
    obtain⟨l⟩:=vs
    match l,hl with
    | [x,y,z],_=>
      have h0:=h 0 _ x rfl rfl
      have h1:=V.int_eq (h 1 _ y rfl rfl)
      have h2:=V.int_eq (h 2 _ z rfl rfl)
      subst h1 h2
      exact⟨x,rfl,h0⟩
theorem event_val{S:iW}{e:ai}{v:Value}(h:V S e.pd v):∃l:List Value,v= .agg l.toArray∧l.length=25:=by
  cases e with
  |mk nm sol=>
    generalize hp:ai.pd ⟨nm,sol⟩=p at h
    unfold ai.pd at hp
    subst hp
    cases h with
    |agg cs vs hl h=>
      obtain⟨l⟩:=vs
      exact⟨l,rfl,by simpa using hl⟩
theorem R.d_inv{S:iW}{loc:jq}{p:PD}{v:Value}(h:R S loc (.d p) v):V S p v:=by cases h with|d h=>exact h
theorem V.bool_eq{S:iW}{b:Bool}{v:Value}(h:V S (.bool b) v):v= .bool b:=by cases h;rfl
theorem list25{l:List Value}(h:l.length=25):∃e0 e1 e2 e3 e4 e5 e6 e7 e8 e9 e10 e11 e12 e13 e14 e15 e16 e17 e18 e19 e20 e21 e22 e23 e24,l=[e0,e1,e2,e3,e4,e5,e6,e7,e8,e9,e10,e11,e12,e13,e14,e15,e16,e17,e18,e19,e20,e21,e22,e23,e24]:=by
  match l,h with
  | [e0,e1,e2,e3,e4,e5,e6,e7,e8,e9,e10,e11,e12,e13,e14,e15,e16,e17,e18,e19,e20,e21,e22,e23,e24],_=>exact⟨_,_,_,_,_,_,_,_,_,_,_,_,_,_,_,_,_,_,_,_,_,_,_,_,_,rfl⟩
theorem rlevel_ok(base:mN)(hE:¬base.mono)(args:List RV)(bs:List Box)(r:RV)(bs':List Box)(h:qH aC.pd ai.pd cw 31 args bs=some (r,bs')):kr Tryz.prog base 31 args bs r bs':=by
  obtain⟨p,e,n,rfl,rfl,hn,rfl,rfl⟩:=tE h
  intro S w ls vs hmem hlen0 hbase hobj hlenv harg
  obtain rfl:ls=[]:=List.eq_nil_of_length_eq_zero hlen0
  obtain⟨v0,v1,rfl⟩:∃v0 v1,vs= #[v0,v1]:=by
    obtain⟨k⟩:=vs
    match k,hlenv with
    | [a,b],_=>exact⟨a,b,rfl⟩
  have a0:=R.d_inv (harg 0 _ v0 rfl rfl)
  have a1:=R.d_inv (harg 1 _ v1 rfl rfl)
  clear harg
  obtain⟨sl,rfl,hsl⟩:=policy_val a0
  obtain⟨el,rfl,hel⟩:=event_val a1
  unfold cw at hn
  obtain⟨rv,hrv,hn⟩:=Option.bind_eq_some_iff.1 hn
  have hlv:Lev.Lv rv (mb e) (p.bA.map toR) n:=by
    by_cases h0:rv=0
    · subst h0
      rw [if_neg (by simp)]at hn
      exact levelL_lv e _ _ hn
    · rw [if_pos (by simpa using h0)]at hn
      cases hn
      exact .inl ⟨h0,rfl⟩
  have himm:∀W,Below w.heap.size w W->∀ad v,S ad=some v->W.cell? ad=some v:=fun W hB ad v hv=>by
    have h1:=hmem.imm _ _ hv
    exact(hB.cell (p:=ad) (kq h1)).trans h1
  have hrow:=isRow_of hmem.imm hsl
  have hval:∀m W,Below w.heap.size w W->CallsIn Fence.wide m Tryz.prog 68 #[.agg #[sl,.int .i64 p.aZ,.int .i64 p.bI]] W fun e W'=>e= .returned (.int .i64 rv)∧Below W.heap.size W W':=fun m W hB=>by
    refine(data_call (fun base=>(iQ hrv).qY (od _ _) lev_mixed) enters68 (himm W hB) hmem.lg rfl (fun i a v h1 h2=>?_) m).mono ?_
    · match i with
      |0=>cases h1;cases h2;exact .d a0
      |i+1=>cases h1
    · rintro e' W' ⟨v,rfl,⟨S',ls',hr⟩,hb⟩
      rw [V.int_eq (R.d_inv hr)];exact⟨rfl,hb⟩
  have hmeets:∀m W(x:Lev.R4),Below w.heap.size w W->CallsIn Fence.wide m Tryz.prog 77 #[x.v,.agg el.toArray] W fun e' W'=>e'= .returned (.bool (mb e x))∧Below W.heap.size W W':=fun m W x hB=>by
    obtain⟨b,hb, -⟩:=meets_ok (ofR x) e
    have hmb:mb e x=b:=by
      show(dw (ofR x) e).getD false=b
      rw [hb];rfl
    rw [hmb]
    refine(data_call (fun base=>(rule_Meets_ev0 hb).qY (od _ _) lev_mixed) enters77 (himm W hB) hmem.lg rfl (fun i a v h1 h2=>?_) m).mono ?_
    · match i with
      |0=>cases h1;cases h2;exact .d (rule_val x)
      |1=>cases h1;cases h2;exact .d a1
      |i+2=>cases h1
    · rintro e' W' ⟨v,rfl,⟨S',ls',hr⟩,hb'⟩
      rw [V.bool_eq (R.d_inv hr)];exact⟨rfl,hb'⟩
  have hz:rv=0->(p.bA.map toR).length<=1000000000:=fun h0=>by
    subst h0
    rw [List.length_map]
    unfold cu at hrv
    by_cases h8:(p.bA.length:Int)>8
    · have h1:¬(p.bA.length:Int)<1:=by omega
      rw [if_neg (by simpa using h1),if_pos (by simpa using h8)]at hrv
      cases hrv
    · omega
  obtain⟨e0,e1,e2,e3,e4,e5,e6,e7,e8,e9,e10,e11,e12,e13,e14,e15,e16,e17,e18,e19,e20,e21,e22,e23,e24,rfl⟩:=list25 hel
  refine .inl ⟨enters31,(callsIn_wide.1 (Lev.level_in 3 (by omega) w sl p.aZ p.bI rv (p.bA.map toR) hz (mb e) e0 e1 e2 e3 e4 e5 e6 e7 e8 e9 e10 e11 e12 e13 e14 e15 e16 e17 e18 e19 e20 e21 e22 e23 e24 hrow hval hmeets)).mono ?_⟩
  rintro e' w' ⟨r,rfl,hr,hB⟩
  obtain rfl:=lv_one hr hlv
  exact ⟨_, rfl, S, [], rfl, Nat.le_refl _, Sub.refl S, ⟨(fun id bx h => by cases h), (fun id L h => by cases h), himm w' hB, hmem.lg, (fun id L b h => by cases h), (fun id id' L L' b h => by cases h)⟩, fun ad u h => .inl h, (fun id L h => by cases h), (fun k L b h => by cases h),
    ⟨hB.os,hB.tape,hB.output,hB.size,fun b hb _=>hB.block b hb,fun h=>(hE h).elim⟩,.d (.int _ _)⟩
end Go.Dw.Fa
