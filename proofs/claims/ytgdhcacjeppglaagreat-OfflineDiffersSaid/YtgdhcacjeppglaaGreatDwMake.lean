
import Derived.Test.YtgdhcacjeppglaaGreatDwCopy
import Derived.Laws.OwnMore
import Derived.Lib.AppendZeros
open Go.Builtin renaming cap_->B4, zeroCells->BD
open Int renaming toNat_natCast->B5
open Array renaming length_toList->B6
open List renaming length_replicate->BV, replicate->AA

namespace Go.Dw
section
variable {P:Program}{X:Ctx}{S:cp}{loc:cJ}{s:St}{tm:Array Value}{w:World}
theorem oo{z:Value}{k:Nat}(a:z.cells.size=k+1)(n:Nat):madeCells z.cells (n*(k+1))=BD z.cells n:=by
 simp [madeCells,BD,a]
theorem ji(h:Sim P X S loc s tm w){id:Nat}{t:TypeId}{l c v:RV}{u:Ups}{r:List Nat}{W U:Value}(hd:dZ P id t l c s.boxes=some ((v,u),r,true))(hl:R S loc l W)(hc:R S loc c U):
  ∃v' w' loc',(Instr.makeSlice t W U).run P w= .ok v' w'∧Sim P X S loc' (s.ups u) tm w'∧R S loc' v v':=by
 unfold dZ at hd
 rcases he:dm P t with _|e
 ·simp only [he]at hd;exact fE s.boxes hd
 simp only [he]at hd
 rcases l with p|_|_|_|_|_|_|_|_|_|_|_|_<;>first|exact fE s.boxes hd|skip
 cases p<;>first|exact fE s.boxes hd|skip
 rcases c with p|_|_|_|_|_|_|_|_|_|_|_|_<;>first|exact fE s.boxes hd|skip
 cases p<;>first|exact fE s.boxes hd|skip
 rename_i k1 n k2 m
 have Y:=hl.cC
 have e2:=hc.cC
 subst Y;subst e2
 have hu:=cW he
 rcases hk:szT P e with _|_|k
 ·simp only [hk]at hd;exact fE s.boxes hd
 ·simp only [hk]at hd;exact fE s.boxes hd
 rcases hb:dV P e with _|by_
 ·simp only [hk,hb]at hd;exact fE s.boxes hd
 rcases L:(df P e).bind ey with _|z
 ·simp only [hk,hb,L]at hd;exact fE s.boxes hd
 simp only [hk,hb,L]at hd
 obtain⟨_,r1,r2,h1,O,_⟩:=M.bind_some hd
 obtain⟨hv,_,_⟩:=M.cU h1
 obtain⟨h5, -,Q⟩:=M.cg (b:=s.boxes) O
 cases h5
 simp only [Bool.true_eq,Bool.and_eq_true,decide_eq_true_eq,beq_iff_eq]at Q
 obtain⟨⟨K,h0,C,J⟩,y⟩:=Q
 obtain⟨B,N,j⟩:=Option.bind_eq_some_iff.1 L
 obtain⟨i,H,I⟩:=c8 N
 have hsz:i.size=k+1:=by simpa [szT,H]using hk
 have D:i.bytes=by_:=by simpa [dV,H]using hb
 obtain⟨n,rfl⟩:∃q:Nat,n=(q:Int):=⟨n.toNat,om⟩
 obtain⟨m,rfl⟩:∃q:Nat,m=(q:Int):=⟨m.toNat,om⟩
 have f:n<=m:=by omega
 simp only [B5]at C J O⊢
 have a := run_make (P := P) w t e i B hu H I k1 k2 n m om K (by
  have:((i.bytes*m:Nat):Int)<=281474976710656:=by rw [D,Nat.mul_comm];omega
  rwa [Int.natCast_mul]at this) om
 simp only [B5]at a
 rw [hsz]at a
 have x:B.cells.size=k+1:=by
  have:=(kK (S:=S) j).1
  omega
 obtain⟨E,G⟩:=dH (S:=S) j y n
 obtain⟨_,F⟩:=dH (S:=S) j y m
 rw [oo x]at a
 have o:(w.alloc (.cells (BD B.cells m) e)).ownsRow 0 e (k+1) (.slice (some ⟨w.heap.size,0,none⟩) n m) n (BD B.cells n).toList:=by
  refine⟨G,.inr ⟨w.heap.size,m,_,rfl,Nat.zero_le _,heap_alloc_new w _,f,by simp [maxLen];omega,?_,?_⟩⟩
  ·rw [<-B6,F]
  ·have hle:n*(k+1)<=m*(k+1):=Nat.mul_le_mul_right _ f
   simp only [BD,x,Array.toList_map,Array.toList_range, <-List.map_take,List.take_range,Nat.min_eq_left hle]
 obtain ⟨loc', g1, g2, _⟩ := h.gQ hv (Step.alloc w _) hk (hdr := .slice (some ⟨w.heap.size, 0, none⟩) n m) (es := AA n z) (xs := (BD B.cells n).toList) (.inl (.of (by rw [BV]; exact o))) E (fun g T => by
   cases m with
   |zero=>simp [cA]at T
   |succ m=>simp [cA]at T;omega) rfl
 exact⟨_,_,loc',a,g1,g2⟩
theorem ma(h:Sim P X S loc s tm w){id:Nat}{t t' ty:TypeId}{l c v:RV}{u:Ups}{r:List Nat}{W U:Value}(hd:jv P id t t' l c s.boxes=some ((v,u),r,true))(hl:R S loc l W)(hc:R S loc c U):
  ∃v' w' loc',(Builtin.append_ #[t,t'] ty #[W,U]).run P w= .ok v' w'∧Sim P X S loc' (s.ups u) tm w'∧R S loc' v v':=by
 unfold jv at hd
 rcases he:dm P t with _|e
 ·simp only [he]at hd;exact fE s.boxes hd
 rcases j:P.underlying t' with _|Y
 ·simp only [he,j]at hd;exact fE s.boxes hd
 simp only [he,j]at hd
 cases Y<;>first|exact fE s.boxes hd|skip
 rcases l with p|_|_|_|_|_|_|_|_|_|_|_|_<;>first|exact fE s.boxes hd|skip
 rcases c with p|_|_|_|_|_|_|_|_|_|_|_|_<;>first|exact fE s.boxes hd|skip
 cases p<;>first|exact fE s.boxes hd|skip
 rename_i kn k1 n
 have e1:=hc.cC
 subst e1
 cases hl
 have hu:=cW he
 rcases hk:szT P e with _|_|k
 ·simp only [hk]at hd;exact fE s.boxes hd
 ·simp only [hk]at hd;exact fE s.boxes hd
 rcases hb:dV P e with _|by_
 ·simp only [hk,hb]at hd;exact fE s.boxes hd
 rcases L:(df P e).bind ey with _|z
 ·simp only [hk,hb,L]at hd;exact fE s.boxes hd
 simp only [hk,hb,L]at hd
 obtain⟨_,r1,r2,h1,O,_⟩:=M.bind_some hd
 obtain⟨hv,_,_⟩:=M.cU h1
 obtain⟨h5, -,Q⟩:=M.cg (b:=s.boxes) O
 cases h5
 simp only [Bool.true_eq,Bool.and_eq_true,decide_eq_true_eq,beq_iff_eq]at Q
 obtain⟨⟨h0,C,J⟩,y⟩:=Q
 obtain⟨f,N,m⟩:=Option.bind_eq_some_iff.1 L
 obtain⟨i,H,I⟩:=c8 N
 have hsz:i.size=k+1:=by simpa [szT,H]using hk
 have D:i.bytes=by_:=by simpa [dV,H]using hb
 obtain⟨n,rfl⟩:∃q:Nat,n=(q:Int):=⟨n.toNat,om⟩
 simp only [B5]at C J O⊢
 have B:0<n:=by omega
 have x:=Lib.run_append_nil_zeros (P:=P) w t t' ty e i f k1 kn hu j H I n B om om (by rw [D];omega)
 have G:=grownCap_ge w n 0 e
 have hle:=grownCap_le_maxLen w n 0 e (by simp [maxLen];omega)
 have a0:f.cells.size=k+1:=by
  have:=(kK (S:=S) m).1
  omega
 obtain⟨E,a⟩:=dH (S:=S) m y n
 obtain⟨_,F⟩:=dH (S:=S) m y (grownCap w n 0 e-n)
 have K:Step none w (w.drew.alloc (.cells (BD f.cells n++BD f.cells (grownCap w n 0 e-n)) e)):=(Step.drew w).trans (Step.alloc w.drew _)
 have o:(w.drew.alloc (.cells (BD f.cells n++BD f.cells (grownCap w n 0 e-n)) e)).ownsRow 0 e (k+1) (.slice (some ⟨w.heap.size,0,none⟩) n (grownCap w n 0 e)) n (BD f.cells n).toList:=by
  refine⟨a,.inr ⟨w.heap.size,grownCap w n 0 e,_,rfl,Nat.zero_le _,heap_alloc_new w.drew _,G,hle,?_,?_⟩⟩
  ·rw [Array.size_append, <-B6, <-B6,a,F, <-Nat.add_mul]
   congr 1
   omega
  ·rw [Array.toList_append,List.take_append_of_le_length (by rw [a];exact Nat.le_refl _),List.take_of_length_le (by rw [a];exact Nat.le_refl _)]
 obtain ⟨loc', g1, g2, _⟩ := h.gQ hv K hk (hdr := .slice (some ⟨w.heap.size, 0, none⟩) n (grownCap w n 0 e)) (es := AA n z) (xs := (BD f.cells n).toList) (.inl (.of (by rw [BV]; exact o))) E (fun g T => by
   cases hc:grownCap w n 0 e with
   |zero=>omega
   |succ c=>rw [hc]at T;simp [cA]at T;omega) rfl
 exact⟨_,_,loc',x,g1,g2⟩
theorem nf(h:Sim P X S loc s tm w){t ty:TypeId}{x v:RV}{u:Ups}{r:List Nat}{a:Value}(hl:capD P t x s.boxes=some ((v,u),r,true))(b:R S loc x a):
  ∃v',(B4 #[t] ty #[a]).run P w= .ok v' w∧R S loc v v'∧u=[]:=by
 unfold capD at hl
 rcases hu:P.underlying t with _|d
 ·simp only [hu]at hl;exact fE s.boxes hl
 rw [hu]at hl
 cases d<;>first|exact fE s.boxes hl|skip
 rcases x with p|_|_|_|_|_|_|_|_|_|_|_|_<;>first|exact fE s.boxes hl|skip
 obtain⟨h1, -, -⟩:=ch hl
 cases h1
 cases b
 exact⟨goInt 0,by simp [B4,run_underlying hu],.d (.int _ _),rfl⟩
end
end Go.Dw
