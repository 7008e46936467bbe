
import Derived.Test.YtfmoipelhfkdkaaGreatDoorDwCopy
import Derived.Laws.OwnMore
import Derived.Lib.AppendZeros
open Go.Builtin renaming cap_->E6, zeroCells->EO
open Int renaming toNat_natCast->E7
open Array renaming length_toList->E8
open List renaming length_replicate->E0, replicate->B2

namespace Go.Dw
section
variable {P:Program}{X:Ctx}{S:rC}{loc:sf}{s:St}{tm:Array Value}{w:World}
theorem De{z:Value}{k:Nat}(hs:z.cells.size=k+1)(n:Nat):madeCells z.cells (n*(k+1))=EO z.cells n:=by
 simp [madeCells,EO,hs]
theorem yI(h:Sim P X S loc s tm w){id:Nat}{t:TypeId}{l c v:RV}{u:Ups}{r:List Nat}{vl vc:Value}(f:tq P id t l c s.boxes=some ((v,u),r,true))(hl:R S loc l vl)(hc:R S loc c vc):
  ∃v' w' loc',(Instr.makeSlice t vl vc).run P w= .ok v' w'∧Sim P X S loc' (s.ups u) tm w'∧R S loc' v v':=by
 unfold tq at f
 rcases he:ss P t with _|e
 ·simp only [he]at f;exact fE s.boxes f
 simp only [he]at f
 rcases l with p|_|_|_|_|_|_|_|_|_|_|_|_<;>first|exact fE s.boxes f|skip
 cases p<;>first|exact fE s.boxes f|skip
 rcases c with p|_|_|_|_|_|_|_|_|_|_|_|_<;>first|exact fE s.boxes f|skip
 cases p<;>first|exact fE s.boxes f|skip
 rename_i k1 n k2 m
 have e1:=hl.rZ
 have e2:=hc.rZ
 subst e1;subst e2
 have hu:=sQ he
 rcases hk:szT P e with _|_|k
 ·simp only [hk]at f;exact fE s.boxes f
 ·simp only [hk]at f;exact fE s.boxes f
 rcases H:sl P e with _|by_
 ·simp only [hk,H]at f;exact fE s.boxes f
 rcases W:(se P e).bind ta with _|z
 ·simp only [hk,H,W]at f;exact fE s.boxes f
 simp only [hk,H,W]at f
 obtain⟨_,r1,r2,h1,h2,_⟩:=M.bind_some f
 obtain⟨hv,_,_⟩:=M.su h1
 obtain⟨h5, -,h6⟩:=M.rm (b:=s.boxes) h2
 cases h5
 simp only [Bool.true_eq,Bool.and_eq_true,decide_eq_true_eq,beq_iff_eq]at h6
 obtain⟨⟨T,h0,I,Q⟩,F⟩:=h6
 obtain⟨G,Y,C⟩:=Option.bind_eq_some_iff.1 W
 obtain⟨i,hi,O⟩:=tv Y
 have U:i.size=k+1:=by simpa [szT,hi]using hk
 have J:i.bytes=by_:=by simpa [sl,hi]using H
 obtain⟨n,rfl⟩:∃q:Nat,n=(q:Int):=⟨n.toNat,za⟩
 obtain⟨m,rfl⟩:∃q:Nat,m=(q:Int):=⟨m.toNat,za⟩
 have B:n<=m:=by omega
 simp only [E7]at I Q h2⊢
 have j := run_make (P := P) w t e i G hu hi O k1 k2 n m za T (by
  have:((i.bytes*m:Nat):Int)<=281474976710656:=by rw [J,Nat.mul_comm];omega
  rwa [Int.natCast_mul]at this) za
 simp only [E7]at j
 rw [U]at j
 have E:G.cells.size=k+1:=by
  have:=(AD (S:=S) C).1
  omega
 obtain⟨K,N⟩:=tN (S:=S) C F n
 obtain⟨_,L⟩:=tN (S:=S) C F m
 rw [De E]at j
 have D:(w.alloc (.cells (EO G.cells m) e)).ownsRow 0 e (k+1) (.slice (some ⟨w.heap.size,0,none⟩) n m) n (EO G.cells n).toList:=by
  refine⟨N,.inr ⟨w.heap.size,m,_,rfl,Nat.zero_le _,heap_alloc_new w _,B,by simp [maxLen];omega,?_,?_⟩⟩
  ·rw [<-E8,L]
  ·have hle:n*(k+1)<=m*(k+1):=Nat.mul_le_mul_right _ B
   simp only [EO,E,Array.toList_map,Array.toList_range, <-List.map_take,List.take_range,Nat.min_eq_left hle]
 obtain ⟨loc', g1, g2, _⟩ := h.xb hv (Step.alloc w _) hk (hdr := .slice (some ⟨w.heap.size, 0, none⟩) n m) (es := B2 n z) (xs := (EO G.cells n).toList) (.inl (.of (by rw [E0]; exact D))) K (fun g hg => by
   cases m with
   |zero=>simp [sX]at hg
   |succ m=>simp [sX]at hg;omega) rfl
 exact⟨_,_,loc',j,g1,g2⟩
theorem Bw(h:Sim P X S loc s tm w){id:Nat}{t I ty:TypeId}{l c v:RV}{u:Ups}{r:List Nat}{vl vc:Value}(f:yT P id t I l c s.boxes=some ((v,u),r,true))(hl:R S loc l vl)(hc:R S loc c vc):
  ∃v' w' loc',(Builtin.append_ #[t,I] ty #[vl,vc]).run P w= .ok v' w'∧Sim P X S loc' (s.ups u) tm w'∧R S loc' v v':=by
 unfold yT at f
 rcases he:ss P t with _|e
 ·simp only [he]at f;exact fE s.boxes f
 rcases C:P.underlying I with _|d'
 ·simp only [he,C]at f;exact fE s.boxes f
 simp only [he,C]at f
 cases d'<;>first|exact fE s.boxes f|skip
 rcases l with p|_|_|_|_|_|_|_|_|_|_|_|_<;>first|exact fE s.boxes f|skip
 rcases c with p|_|_|_|_|_|_|_|_|_|_|_|_<;>first|exact fE s.boxes f|skip
 cases p<;>first|exact fE s.boxes f|skip
 rename_i kn k1 n
 have e1:=hc.rZ
 subst e1
 cases hl
 have hu:=sQ he
 rcases hk:szT P e with _|_|k
 ·simp only [hk]at f;exact fE s.boxes f
 ·simp only [hk]at f;exact fE s.boxes f
 rcases H:sl P e with _|by_
 ·simp only [hk,H]at f;exact fE s.boxes f
 rcases Y:(se P e).bind ta with _|z
 ·simp only [hk,H,Y]at f;exact fE s.boxes f
 simp only [hk,H,Y]at f
 obtain⟨_,r1,r2,h1,h2,_⟩:=M.bind_some f
 obtain⟨hv,_,_⟩:=M.su h1
 obtain⟨h5, -,h6⟩:=M.rm (b:=s.boxes) h2
 cases h5
 simp only [Bool.true_eq,Bool.and_eq_true,decide_eq_true_eq,beq_iff_eq]at h6
 obtain⟨⟨h0,K,U⟩,G⟩:=h6
 obtain⟨B,a5,D⟩:=Option.bind_eq_some_iff.1 Y
 obtain⟨i,hi,T⟩:=tv a5
 have a6:i.size=k+1:=by simpa [szT,hi]using hk
 have L:i.bytes=by_:=by simpa [sl,hi]using H
 obtain⟨n,rfl⟩:∃q:Nat,n=(q:Int):=⟨n.toNat,za⟩
 simp only [E7]at K U h2⊢
 have J:0<n:=by omega
 have F:=Lib.run_append_nil_zeros (P:=P) w t I ty e i B k1 kn hu C hi T n J za za (by rw [L];omega)
 have Q:=grownCap_ge w n 0 e
 have hle:=grownCap_le_maxLen w n 0 e (by simp [maxLen];omega)
 have a9:B.cells.size=k+1:=by
  have:=(AD (S:=S) D).1
  omega
 obtain⟨N,j⟩:=tN (S:=S) D G n
 obtain⟨_,O⟩:=tN (S:=S) D G (grownCap w n 0 e-n)
 have W:Step none w (w.drew.alloc (.cells (EO B.cells n++EO B.cells (grownCap w n 0 e-n)) e)):=(Step.drew w).trans (Step.alloc w.drew _)
 have E:(w.drew.alloc (.cells (EO B.cells n++EO B.cells (grownCap w n 0 e-n)) e)).ownsRow 0 e (k+1) (.slice (some ⟨w.heap.size,0,none⟩) n (grownCap w n 0 e)) n (EO B.cells n).toList:=by
  refine⟨j,.inr ⟨w.heap.size,grownCap w n 0 e,_,rfl,Nat.zero_le _,heap_alloc_new w.drew _,Q,hle,?_,?_⟩⟩
  ·rw [Array.size_append, <-E8, <-E8,j,O, <-Nat.add_mul]
   congr 1
   omega
  ·rw [Array.toList_append,List.take_append_of_le_length (by rw [j];exact Nat.le_refl _),List.take_of_length_le (by rw [j];exact Nat.le_refl _)]
 obtain ⟨loc', g1, g2, _⟩ := h.xb hv W hk (hdr := .slice (some ⟨w.heap.size, 0, none⟩) n (grownCap w n 0 e)) (es := B2 n z) (xs := (EO B.cells n).toList) (.inl (.of (by rw [E0]; exact E))) N (fun g hg => by
   cases hc:grownCap w n 0 e with
   |zero=>omega
   |succ c=>rw [hc]at hg;simp [sX]at hg;omega) rfl
 exact⟨_,_,loc',F,g1,g2⟩
theorem Cg(h:Sim P X S loc s tm w){t ty:TypeId}{x v:RV}{u:Ups}{r:List Nat}{f:Value}(hl:capD P t x s.boxes=some ((v,u),r,true))(g:R S loc x f):
  ∃v',(E6 #[t] ty #[f]).run P w= .ok v' w∧R S loc v v'∧u=[]:=by
 unfold capD at hl
 rcases hu:P.underlying t with _|d
 ·simp only [hu]at hl;exact fE s.boxes hl
 rw [hu]at hl
 cases d<;>first|exact fE s.boxes hl|skip
 rcases x with p|_|_|_|_|_|_|_|_|_|_|_|_<;>first|exact fE s.boxes hl|skip
 obtain⟨h1, -, -⟩:=rp hl
 cases h1
 cases g
 exact⟨goInt 0,by simp [E6,run_underlying hu],.d (.int _ _),rfl⟩
end
end Go.Dw
