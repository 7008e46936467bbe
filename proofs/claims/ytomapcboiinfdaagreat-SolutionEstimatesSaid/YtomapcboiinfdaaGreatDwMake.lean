
import Derived.Test.YtomapcboiinfdaaGreatDwCopy
import Derived.Laws.OwnMore
import Derived.Lib.AppendZeros
open Go.Builtin renaming cap_->BU, zeroCells->BA
open Int renaming toNat_natCast->BV
open Array renaming length_toList->BW
open List renaming length_replicate->BM, replicate->AA

namespace Go.Dw
section
variable {P:Program}{X:Ctx}{S:mW}{loc:nB}{s:St}{tm:Array Value}{w:World}
theorem zt{z:Value}{k:Nat}(a:z.cells.size=k+1)(n:Nat):madeCells z.cells (n*(k+1))=BA z.cells n:=by
 simp [madeCells,BA,a]
theorem uj(h:Sim P X S loc s tm w){id:Nat}{t:TypeId}{l c v:RV}{u:Ups}{r:List Nat}{vl vc:Value}(a:ou P id t l c s.boxes=some ((v,u),r,true))(hl:R S loc l vl)(hc:R S loc c vc):
  ∃v' w' loc',(Instr.makeSlice t vl vc).run P w= .ok v' w'∧Sim P X S loc' (s.ups u) tm w'∧R S loc' v v':=by
 unfold ou at a
 rcases he:od P t with _|e
 ·simp only [he]at a;exact fE s.boxes a
 simp only [he]at a
 rcases l with p|_|_|_|_|_|_|_|_|_|_|_|_<;>first|exact fE s.boxes a|skip
 cases p<;>first|exact fE s.boxes a|skip
 rcases c with p|_|_|_|_|_|_|_|_|_|_|_|_<;>first|exact fE s.boxes a|skip
 cases p<;>first|exact fE s.boxes a|skip
 rename_i k1 n k2 m
 have e1:=hl.np
 have e2:=hc.np
 subst e1;subst e2
 have hu:=nQ he
 rcases hk:szT P e with _|_|k
 ·simp only [hk]at a;exact fE s.boxes a
 ·simp only [hk]at a;exact fE s.boxes a
 rcases D:oT P e with _|by_
 ·simp only [hk,D]at a;exact fE s.boxes a
 rcases O:(n0 P e).bind oB with _|z
 ·simp only [hk,D,O]at a;exact fE s.boxes a
 simp only [hk,D,O]at a
 obtain⟨_,r1,r2,h1,T,_⟩:=M.bind_some a
 obtain⟨hv,_,_⟩:=M.nJ h1
 obtain⟨h5, -,W⟩:=M.mP (b:=s.boxes) T
 cases h5
 simp only [Bool.true_eq,Bool.and_eq_true,decide_eq_true_eq,beq_iff_eq]at W
 obtain⟨⟨L,h0,E,K⟩,B⟩:=W
 obtain⟨C,Q,o⟩:=Option.bind_eq_some_iff.1 O
 obtain⟨i,hi,J⟩:=oc Q
 have N:i.size=k+1:=by simpa [szT,hi]using hk
 have F:i.bytes=by_:=by simpa [oT,hi]using D
 obtain⟨n,rfl⟩:∃q:Nat,n=(q:Int):=⟨n.toNat,om⟩
 obtain⟨m,rfl⟩:∃q:Nat,m=(q:Int):=⟨m.toNat,om⟩
 have j:n<=m:=by omega
 simp only [BV]at E K T⊢
 have f := run_make (P := P) w t e i C hu hi J k1 k2 n m om L (by
  have:((i.bytes*m:Nat):Int)<=281474976710656:=by rw [F,Nat.mul_comm];omega
  rwa [Int.natCast_mul]at this) om
 simp only [BV]at f
 rw [N]at f
 have y:C.cells.size=k+1:=by
  have:=(wi (S:=S) o).1
  omega
 obtain⟨G,I⟩:=oA (S:=S) o B n
 obtain⟨_,H⟩:=oA (S:=S) o B m
 rw [zt y]at f
 have x:(w.alloc (.cells (BA C.cells m) e)).ownsRow 0 e (k+1) (.slice (some ⟨w.heap.size,0,none⟩) n m) n (BA C.cells n).toList:=by
  refine⟨I,.inr ⟨w.heap.size,m,_,rfl,Nat.zero_le _,heap_alloc_new w _,j,by simp [maxLen];omega,?_,?_⟩⟩
  ·rw [<-BW,H]
  ·have hle:n*(k+1)<=m*(k+1):=Nat.mul_le_mul_right _ j
   simp only [BA,y,Array.toList_map,Array.toList_range, <-List.map_take,List.take_range,Nat.min_eq_left hle]
 obtain ⟨loc', g1, g2, _⟩ := h.sb hv (Step.alloc w _) hk (hdr := .slice (some ⟨w.heap.size, 0, none⟩) n m) (es := AA n z) (xs := (BA C.cells n).toList) (.inl (.of (by rw [BM]; exact x))) G (fun g Y => by
   cases m with
   |zero=>simp [nT]at Y
   |succ m=>simp [nT]at Y;omega) rfl
 exact⟨_,_,loc',f,g1,g2⟩
theorem xk(h:Sim P X S loc s tm w){id:Nat}{t t' ty:TypeId}{l c v:RV}{u:Ups}{r:List Nat}{vl vc:Value}(a:uD P id t t' l c s.boxes=some ((v,u),r,true))(hl:R S loc l vl)(G:R S loc c vc):
  ∃v' w' loc',(Builtin.append_ #[t,t'] ty #[vl,vc]).run P w= .ok v' w'∧Sim P X S loc' (s.ups u) tm w'∧R S loc' v v':=by
 unfold uD at a
 rcases he:od P t with _|e
 ·simp only [he]at a;exact fE s.boxes a
 rcases m:P.underlying t' with _|d'
 ·simp only [he,m]at a;exact fE s.boxes a
 simp only [he,m]at a
 cases d'<;>first|exact fE s.boxes a|skip
 rcases l with p|_|_|_|_|_|_|_|_|_|_|_|_<;>first|exact fE s.boxes a|skip
 rcases c with p|_|_|_|_|_|_|_|_|_|_|_|_<;>first|exact fE s.boxes a|skip
 cases p<;>first|exact fE s.boxes a|skip
 rename_i kn k1 n
 have e1:=G.np
 subst e1
 cases hl
 have hu:=nQ he
 rcases hk:szT P e with _|_|k
 ·simp only [hk]at a;exact fE s.boxes a
 ·simp only [hk]at a;exact fE s.boxes a
 rcases C:oT P e with _|by_
 ·simp only [hk,C]at a;exact fE s.boxes a
 rcases O:(n0 P e).bind oB with _|z
 ·simp only [hk,C,O]at a;exact fE s.boxes a
 simp only [hk,C,O]at a
 obtain⟨_,r1,r2,h1,T,_⟩:=M.bind_some a
 obtain⟨hv,_,_⟩:=M.nJ h1
 obtain⟨h5, -,W⟩:=M.mP (b:=s.boxes) T
 cases h5
 simp only [Bool.true_eq,Bool.and_eq_true,decide_eq_true_eq,beq_iff_eq]at W
 obtain⟨⟨h0,E,L⟩,B⟩:=W
 obtain⟨j,Q,o⟩:=Option.bind_eq_some_iff.1 O
 obtain⟨i,hi,K⟩:=oc Q
 have a5:i.size=k+1:=by simpa [szT,hi]using hk
 have F:i.bytes=by_:=by simpa [oT,hi]using C
 obtain⟨n,rfl⟩:∃q:Nat,n=(q:Int):=⟨n.toNat,om⟩
 simp only [BV]at E L T⊢
 have D:0<n:=by omega
 have y:=Lib.run_append_nil_zeros (P:=P) w t t' ty e i j k1 kn hu m hi K n D om om (by rw [F];omega)
 have J:=grownCap_ge w n 0 e
 have hle:=grownCap_le_maxLen w n 0 e (by simp [maxLen];omega)
 have a6:j.cells.size=k+1:=by
  have:=(wi (S:=S) o).1
  omega
 obtain⟨H,f⟩:=oA (S:=S) o B n
 obtain⟨_,I⟩:=oA (S:=S) o B (grownCap w n 0 e-n)
 have N:Step none w (w.drew.alloc (.cells (BA j.cells n++BA j.cells (grownCap w n 0 e-n)) e)):=(Step.drew w).trans (Step.alloc w.drew _)
 have x:(w.drew.alloc (.cells (BA j.cells n++BA j.cells (grownCap w n 0 e-n)) e)).ownsRow 0 e (k+1) (.slice (some ⟨w.heap.size,0,none⟩) n (grownCap w n 0 e)) n (BA j.cells n).toList:=by
  refine⟨f,.inr ⟨w.heap.size,grownCap w n 0 e,_,rfl,Nat.zero_le _,heap_alloc_new w.drew _,J,hle,?_,?_⟩⟩
  ·rw [Array.size_append, <-BW, <-BW,f,I, <-Nat.add_mul]
   congr 1
   omega
  ·rw [Array.toList_append,List.take_append_of_le_length (by rw [f];exact Nat.le_refl _),List.take_of_length_le (by rw [f];exact Nat.le_refl _)]
 obtain ⟨loc', g1, g2, _⟩ := h.sb hv N hk (hdr := .slice (some ⟨w.heap.size, 0, none⟩) n (grownCap w n 0 e)) (es := AA n z) (xs := (BA j.cells n).toList) (.inl (.of (by rw [BM]; exact x))) H (fun g Y => by
   cases G:grownCap w n 0 e with
   |zero=>omega
   |succ c=>rw [G]at Y;simp [nT]at Y;omega) rfl
 exact⟨_,_,loc',y,g1,g2⟩
theorem yk(h:Sim P X S loc s tm w){t ty:TypeId}{x v:RV}{u:Ups}{r:List Nat}{b:Value}(a:capD P t x s.boxes=some ((v,u),r,true))(c:R S loc x b):
  ∃v',(BU #[t] ty #[b]).run P w= .ok v' w∧R S loc v v'∧u=[]:=by
 unfold capD at a
 rcases hu:P.underlying t with _|d
 ·simp only [hu]at a;exact fE s.boxes a
 rw [hu]at a
 cases d<;>first|exact fE s.boxes a|skip
 rcases x with p|_|_|_|_|_|_|_|_|_|_|_|_<;>first|exact fE s.boxes a|skip
 obtain⟨h1, -, -⟩:=mQ a
 cases h1
 cases c
 exact⟨goInt 0,by simp [BU,run_underlying hu],.d (.int _ _),rfl⟩
end
end Go.Dw
