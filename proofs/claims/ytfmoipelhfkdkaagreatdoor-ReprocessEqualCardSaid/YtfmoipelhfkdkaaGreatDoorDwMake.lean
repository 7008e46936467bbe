
import Derived.Test.YtfmoipelhfkdkaaGreatDoorDwCopy
import Derived.Laws.OwnMore
import Derived.Lib.AppendZeros
open Go.Builtin renaming cap_->Es, zeroCells->E8
open Int renaming toNat_natCast->Et
open Array renaming length_toList->Eu
open List renaming length_replicate->Ej, replicate->B2

namespace Go.Dw
section
variable {P:Program}{X:Ctx}{S:rP}{loc:ss}{s:St}{tm:Array Value}{w:World}
theorem Dz{z:Value}{k:Nat}(hs:z.cells.size=k+1)(n:Nat):madeCells z.cells (n*(k+1))=E8 z.cells n:=by
 simp [madeCells,E8,hs]
theorem yX(h:Sim P X S loc s tm w){id:Nat}{t:TypeId}{l c v:RV}{u:Ups}{r:List Nat}{vl vc:Value}(f:tH P id t l c s.boxes=some ((v,u),r,true))(hl:R S loc l vl)(hc:R S loc c vc):
  ∃v' w' loc',(Instr.makeSlice t vl vc).run P w= .ok v' w'∧Sim P X S loc' (s.ups u) tm w'∧R S loc' v v':=by
 unfold tH at f
 rcases he:sD P t with _|e
 ·simp only [he]at f;exact fE s.boxes f
 simp only [he]at f
 rcases l with p|_|_|_|_|_|_|_|_|_|_|_|_<;>first|exact fE s.boxes f|skip
 cases p<;>first|exact fE s.boxes f|skip
 rcases c with p|_|_|_|_|_|_|_|_|_|_|_|_<;>first|exact fE s.boxes f|skip
 cases p<;>first|exact fE s.boxes f|skip
 rename_i k1 n k2 m
 have e1:=hl.sk
 have e2:=hc.sk
 subst e1;subst e2
 have hu:=tj he
 rcases hk:szT P e with _|_|k
 ·simp only [hk]at f;exact fE s.boxes f
 ·simp only [hk]at f;exact fE s.boxes f
 rcases I:sP P e with _|by_
 ·simp only [hk,I]at f;exact fE s.boxes f
 rcases Y:(sr P e).bind tq with _|z
 ·simp only [hk,I,Y]at f;exact fE s.boxes f
 simp only [hk,I,Y]at f
 obtain⟨_,r1,r2,h1,h2,_⟩:=M.bind_some f
 obtain⟨hv,_,_⟩:=M.sZ h1
 obtain⟨h5, -,h6⟩:=M.rE (b:=s.boxes) h2
 cases h5
 simp only [Bool.true_eq,Bool.and_eq_true,decide_eq_true_eq,beq_iff_eq]at h6
 obtain⟨⟨U,h0,J,T⟩,G⟩:=h6
 obtain⟨H,a5,D⟩:=Option.bind_eq_some_iff.1 Y
 obtain⟨i,hi,Q⟩:=tJ a5
 have W:i.size=k+1:=by simpa [szT,hi]using hk
 have K:i.bytes=by_:=by simpa [sP,hi]using I
 obtain⟨n,rfl⟩:∃q:Nat,n=(q:Int):=⟨n.toNat,za⟩
 obtain⟨m,rfl⟩:∃q:Nat,m=(q:Int):=⟨m.toNat,za⟩
 have C:n<=m:=by omega
 simp only [Et]at J T h2⊢
 have j := run_make (P := P) w t e i H hu hi Q k1 k2 n m za U (by
  have:((i.bytes*m:Nat):Int)<=281474976710656:=by rw [K,Nat.mul_comm];omega
  rwa [Int.natCast_mul]at this) za
 simp only [Et]at j
 rw [W]at j
 have F:H.cells.size=k+1:=by
  have:=(AS (S:=S) D).1
  omega
 obtain⟨L,O⟩:=tY (S:=S) D G n
 obtain⟨_,N⟩:=tY (S:=S) D G m
 rw [Dz F]at j
 have E:(w.alloc (.cells (E8 H.cells m) e)).ownsRow 0 e (k+1) (.slice (some ⟨w.heap.size,0,none⟩) n m) n (E8 H.cells n).toList:=by
  refine⟨O,.inr ⟨w.heap.size,m,_,rfl,Nat.zero_le _,heap_alloc_new w _,C,by simp [maxLen];omega,?_,?_⟩⟩
  ·rw [<-Eu,N]
  ·have hle:n*(k+1)<=m*(k+1):=Nat.mul_le_mul_right _ C
   simp only [E8,F,Array.toList_map,Array.toList_range, <-List.map_take,List.take_range,Nat.min_eq_left hle]
 obtain ⟨loc', g1, g2, _⟩ := h.xr hv (Step.alloc w _) hk (hdr := .slice (some ⟨w.heap.size, 0, none⟩) n m) (es := B2 n z) (xs := (E8 H.cells n).toList) (.inl (.of (by rw [Ej]; exact E))) L (fun g hg => by
   cases m with
   |zero=>simp [tp]at hg
   |succ m=>simp [tp]at hg;omega) rfl
 exact⟨_,_,loc',j,g1,g2⟩
theorem BM(h:Sim P X S loc s tm w){id:Nat}{t t' ty:TypeId}{l c v:RV}{u:Ups}{r:List Nat}{vl vc:Value}(f:zp P id t t' l c s.boxes=some ((v,u),r,true))(hl:R S loc l vl)(hc:R S loc c vc):
  ∃v' w' loc',(Builtin.append_ #[t,t'] ty #[vl,vc]).run P w= .ok v' w'∧Sim P X S loc' (s.ups u) tm w'∧R S loc' v v':=by
 unfold zp at f
 rcases he:sD P t with _|e
 ·simp only [he]at f;exact fE s.boxes f
 rcases D:P.underlying t' with _|d'
 ·simp only [he,D]at f;exact fE s.boxes f
 simp only [he,D]at f
 cases d'<;>first|exact fE s.boxes f|skip
 rcases l with p|_|_|_|_|_|_|_|_|_|_|_|_<;>first|exact fE s.boxes f|skip
 rcases c with p|_|_|_|_|_|_|_|_|_|_|_|_<;>first|exact fE s.boxes f|skip
 cases p<;>first|exact fE s.boxes f|skip
 rename_i kn k1 n
 have e1:=hc.sk
 subst e1
 cases hl
 have hu:=tj he
 rcases hk:szT P e with _|_|k
 ·simp only [hk]at f;exact fE s.boxes f
 ·simp only [hk]at f;exact fE s.boxes f
 rcases I:sP P e with _|by_
 ·simp only [hk,I]at f;exact fE s.boxes f
 rcases Y:(sr P e).bind tq with _|z
 ·simp only [hk,I,Y]at f;exact fE s.boxes f
 simp only [hk,I,Y]at f
 obtain⟨_,r1,r2,h1,h2,_⟩:=M.bind_some f
 obtain⟨hv,_,_⟩:=M.sZ h1
 obtain⟨h5, -,h6⟩:=M.rE (b:=s.boxes) h2
 cases h5
 simp only [Bool.true_eq,Bool.and_eq_true,decide_eq_true_eq,beq_iff_eq]at h6
 obtain⟨⟨h0,K,U⟩,H⟩:=h6
 obtain⟨C,a5,E⟩:=Option.bind_eq_some_iff.1 Y
 obtain⟨i,hi,T⟩:=tJ a5
 have a6:i.size=k+1:=by simpa [szT,hi]using hk
 have L:i.bytes=by_:=by simpa [sP,hi]using I
 obtain⟨n,rfl⟩:∃q:Nat,n=(q:Int):=⟨n.toNat,za⟩
 simp only [Et]at K U h2⊢
 have J:0<n:=by omega
 have G:=Lib.run_append_nil_zeros (P:=P) w t t' ty e i C k1 kn hu D hi T n J za za (by rw [L];omega)
 have Q:=grownCap_ge w n 0 e
 have hle:=grownCap_le_maxLen w n 0 e (by simp [maxLen];omega)
 have a9:C.cells.size=k+1:=by
  have:=(AS (S:=S) E).1
  omega
 obtain⟨N,j⟩:=tY (S:=S) E H n
 obtain⟨_,O⟩:=tY (S:=S) E H (grownCap w n 0 e-n)
 have W:Step none w (w.drew.alloc (.cells (E8 C.cells n++E8 C.cells (grownCap w n 0 e-n)) e)):=(Step.drew w).trans (Step.alloc w.drew _)
 have F:(w.drew.alloc (.cells (E8 C.cells n++E8 C.cells (grownCap w n 0 e-n)) e)).ownsRow 0 e (k+1) (.slice (some ⟨w.heap.size,0,none⟩) n (grownCap w n 0 e)) n (E8 C.cells n).toList:=by
  refine⟨j,.inr ⟨w.heap.size,grownCap w n 0 e,_,rfl,Nat.zero_le _,heap_alloc_new w.drew _,Q,hle,?_,?_⟩⟩
  ·rw [Array.size_append, <-Eu, <-Eu,j,O, <-Nat.add_mul]
   congr 1
   omega
  ·rw [Array.toList_append,List.take_append_of_le_length (by rw [j];exact Nat.le_refl _),List.take_of_length_le (by rw [j];exact Nat.le_refl _)]
 obtain ⟨loc', g1, g2, _⟩ := h.xr hv W hk (hdr := .slice (some ⟨w.heap.size, 0, none⟩) n (grownCap w n 0 e)) (es := B2 n z) (xs := (E8 C.cells n).toList) (.inl (.of (by rw [Ej]; exact F))) N (fun g hg => by
   cases hc:grownCap w n 0 e with
   |zero=>omega
   |succ c=>rw [hc]at hg;simp [tp]at hg;omega) rfl
 exact⟨_,_,loc',G,g1,g2⟩
theorem CB(h:Sim P X S loc s tm w){t ty:TypeId}{x v:RV}{u:Ups}{r:List Nat}{f:Value}(hl:capD P t x s.boxes=some ((v,u),r,true))(g:R S loc x f):
  ∃v',(Es #[t] ty #[f]).run P w= .ok v' w∧R S loc v v'∧u=[]:=by
 unfold capD at hl
 rcases hu:P.underlying t with _|d
 ·simp only [hu]at hl;exact fE s.boxes hl
 rw [hu]at hl
 cases d<;>first|exact fE s.boxes hl|skip
 rcases x with p|_|_|_|_|_|_|_|_|_|_|_|_<;>first|exact fE s.boxes hl|skip
 obtain⟨h1, -, -⟩:=rH hl
 cases h1
 cases g
 exact⟨goInt 0,by simp [Es,run_underlying hu],.d (.int _ _),rfl⟩
end
end Go.Dw
