
import Derived.Test.YthkfkgoddhehcaaGreatDwCopy
import Derived.Laws.OwnMore
import Derived.Lib.AppendZeros
open Go.Builtin renaming cap_->Fc, zeroCells->Fb
open Int renaming toNat_natCast->Fe
open Array renaming length_toList->Ff
open List renaming length_replicate->F4, replicate->EA

namespace Go.Dw
section
variable {P:Program}{X:Ctx}{S:tG}{loc:ui}{s:St}{tm:Array Value}{w:World}
theorem Ek{z:Value}{k:Nat}(hs:z.cells.size=k+1)(n:Nat):madeCells z.cells (n*(k+1))=Fb z.cells n:=by
 simp [madeCells,Fb,hs]
theorem Av(h:Sim P X S loc s tm w){id:Nat}{t:TypeId}{l c v:RV}{u:Ups}{r:List Nat}{vl vc:Value}(a:uX P id t l c s.boxes=some ((v,u),r,true))(hl:R S loc l vl)(hc:R S loc c vc):
  ∃v' w' loc',(Instr.makeSlice t vl vc).run P w= .ok v' w'∧Sim P X S loc' (s.ups u) tm w'∧R S loc' v v':=by
 unfold uX at a
 rcases he:uA P t with _|e
 ·simp only [he]at a;exact fE s.boxes a
 simp only [he]at a
 rcases l with p|_|_|_|_|_|_|_|_|_|_|_|_<;>first|exact fE s.boxes a|skip
 cases p<;>first|exact fE s.boxes a|skip
 rcases c with p|_|_|_|_|_|_|_|_|_|_|_|_<;>first|exact fE s.boxes a|skip
 cases p<;>first|exact fE s.boxes a|skip
 rename_i k1 n k2 m
 have e1:=hl.uo
 have e2:=hc.uo
 subst e1;subst e2
 have hu:=uW he
 rcases hk:szT P e with _|_|k
 ·simp only [hk]at a;exact fE s.boxes a
 ·simp only [hk]at a;exact fE s.boxes a
 rcases E:uJ P e with _|by_
 ·simp only [hk,E]at a;exact fE s.boxes a
 rcases Q:(uE P e).bind vB with _|z
 ·simp only [hk,E,Q]at a;exact fE s.boxes a
 simp only [hk,E,Q]at a
 obtain⟨_,r1,r2,h1,W,_⟩:=M.bind_some a
 obtain⟨hv,_,_⟩:=M.uD h1
 obtain⟨h5, -,Y⟩:=M.tK (b:=s.boxes) W
 cases h5
 simp only [Bool.true_eq,Bool.and_eq_true,decide_eq_true_eq,beq_iff_eq]at Y
 obtain⟨⟨N,h0,F,L⟩,C⟩:=Y
 obtain⟨D,T,x⟩:=Option.bind_eq_some_iff.1 Q
 obtain⟨i,hi,K⟩:=vu T
 have O:i.size=k+1:=by simpa [szT,hi]using hk
 have G:i.bytes=by_:=by simpa [uJ,hi]using E
 obtain⟨n,rfl⟩:∃q:Nat,n=(q:Int):=⟨n.toNat,za⟩
 obtain⟨m,rfl⟩:∃q:Nat,m=(q:Int):=⟨m.toNat,za⟩
 have j:n<=m:=by omega
 simp only [Fe]at F L W⊢
 have f := run_make (P := P) w t e i D hu hi K k1 k2 n m za N (by
  have:((i.bytes*m:Nat):Int)<=281474976710656:=by rw [G,Nat.mul_comm];omega
  rwa [Int.natCast_mul]at this) za
 simp only [Fe]at f
 rw [O]at f
 have B:D.cells.size=k+1:=by
  have:=(BG (S:=S) x).1
  omega
 obtain⟨H,J⟩:=vt (S:=S) x C n
 obtain⟨_,I⟩:=vt (S:=S) x C m
 rw [Ek B]at f
 have y:(w.alloc (.cells (Fb D.cells m) e)).ownsRow 0 e (k+1) (.slice (some ⟨w.heap.size,0,none⟩) n m) n (Fb D.cells n).toList:=by
  refine⟨J,.inr ⟨w.heap.size,m,_,rfl,Nat.zero_le _,heap_alloc_new w _,j,by simp [maxLen];omega,?_,?_⟩⟩
  ·rw [<-Ff,I]
  ·have hle:n*(k+1)<=m*(k+1):=Nat.mul_le_mul_right _ j
   simp only [Fb,B,Array.toList_map,Array.toList_range, <-List.map_take,List.take_range,Nat.min_eq_left hle]
 obtain ⟨loc', g1, g2, _⟩ := h.yB hv (Step.alloc w _) hk (hdr := .slice (some ⟨w.heap.size, 0, none⟩) n m) (es := EA n z) (xs := (Fb D.cells n).toList) (.inl (.of (by rw [F4]; exact y))) H (λg hg => by
   cases m with
   |zero=>simp [tM]at hg
   |succ m=>simp [tM]at hg;omega) rfl
 exact⟨_,_,loc',f,g1,g2⟩
theorem CA(h:Sim P X S loc s tm w){id:Nat}{t t' ty:TypeId}{l c v:RV}{u:Ups}{r:List Nat}{vl vc:Value}(a:AE P id t t' l c s.boxes=some ((v,u),r,true))(hl:R S loc l vl)(hc:R S loc c vc):
  ∃v' w' loc',(Builtin.append_ #[t,t'] ty #[vl,vc]).run P w= .ok v' w'∧Sim P X S loc' (s.ups u) tm w'∧R S loc' v v':=by
 unfold AE at a
 rcases he:uA P t with _|e
 ·simp only [he]at a;exact fE s.boxes a
 rcases x:P.underlying t' with _|d'
 ·simp only [he,x]at a;exact fE s.boxes a
 simp only [he,x]at a
 cases d'<;>first|exact fE s.boxes a|skip
 rcases l with p|_|_|_|_|_|_|_|_|_|_|_|_<;>first|exact fE s.boxes a|skip
 rcases c with p|_|_|_|_|_|_|_|_|_|_|_|_<;>first|exact fE s.boxes a|skip
 cases p<;>first|exact fE s.boxes a|skip
 rename_i kn k1 n
 have e1:=hc.uo
 subst e1
 cases hl
 have hu:=uW he
 rcases hk:szT P e with _|_|k
 ·simp only [hk]at a;exact fE s.boxes a
 ·simp only [hk]at a;exact fE s.boxes a
 rcases E:uJ P e with _|by_
 ·simp only [hk,E]at a;exact fE s.boxes a
 rcases Q:(uE P e).bind vB with _|z
 ·simp only [hk,E,Q]at a;exact fE s.boxes a
 simp only [hk,E,Q]at a
 obtain⟨_,r1,r2,h1,W,_⟩:=M.bind_some a
 obtain⟨hv,_,_⟩:=M.uD h1
 obtain⟨h5, -,Y⟩:=M.tK (b:=s.boxes) W
 cases h5
 simp only [Bool.true_eq,Bool.and_eq_true,decide_eq_true_eq,beq_iff_eq]at Y
 obtain⟨⟨h0,G,N⟩,D⟩:=Y
 obtain⟨j,T,y⟩:=Option.bind_eq_some_iff.1 Q
 obtain⟨i,hi,L⟩:=vu T
 have a5:i.size=k+1:=by simpa [szT,hi]using hk
 have H:i.bytes=by_:=by simpa [uJ,hi]using E
 obtain⟨n,rfl⟩:∃q:Nat,n=(q:Int):=⟨n.toNat,za⟩
 simp only [Fe]at G N W⊢
 have F:0<n:=by omega
 have C:=Lib.run_append_nil_zeros (P:=P) w t t' ty e i j k1 kn hu x hi L n F za za (by rw [H];omega)
 have K:=grownCap_ge w n 0 e
 have hle:=grownCap_le_maxLen w n 0 e (by simp [maxLen];omega)
 have a6:j.cells.size=k+1:=by
  have:=(BG (S:=S) y).1
  omega
 obtain⟨I,f⟩:=vt (S:=S) y D n
 obtain⟨_,J⟩:=vt (S:=S) y D (grownCap w n 0 e-n)
 have O:Step none w (w.drew.alloc (.cells (Fb j.cells n++Fb j.cells (grownCap w n 0 e-n)) e)):=(Step.drew w).trans (Step.alloc w.drew _)
 have B:(w.drew.alloc (.cells (Fb j.cells n++Fb j.cells (grownCap w n 0 e-n)) e)).ownsRow 0 e (k+1) (.slice (some ⟨w.heap.size,0,none⟩) n (grownCap w n 0 e)) n (Fb j.cells n).toList:=by
  refine⟨f,.inr ⟨w.heap.size,grownCap w n 0 e,_,rfl,Nat.zero_le _,heap_alloc_new w.drew _,K,hle,?_,?_⟩⟩
  ·rw [Array.size_append, <-Ff, <-Ff,f,J, <-Nat.add_mul]
   congr 1
   omega
  ·rw [Array.toList_append,List.take_append_of_le_length (by rw [f];exact Nat.le_refl _),List.take_of_length_le (by rw [f];exact Nat.le_refl _)]
 obtain ⟨loc', g1, g2, _⟩ := h.yB hv O hk (hdr := .slice (some ⟨w.heap.size, 0, none⟩) n (grownCap w n 0 e)) (es := EA n z) (xs := (Fb j.cells n).toList) (.inl (.of (by rw [F4]; exact B))) I (λg hg => by
   cases hc:grownCap w n 0 e with
   |zero=>omega
   |succ c=>rw [hc]at hg;simp [tM]at hg;omega) rfl
 exact⟨_,_,loc',C,g1,g2⟩
theorem Dn(h:Sim P X S loc s tm w){t ty:TypeId}{x v:RV}{u:Ups}{r:List Nat}{c:Value}(a:capD P t x s.boxes=some ((v,u),r,true))(f:R S loc x c):
  ∃v',(Fc #[t] ty #[c]).run P w= .ok v' w∧R S loc v v'∧u=[]:=by
 unfold capD at a
 rcases hu:P.underlying t with _|d
 ·simp only [hu]at a;exact fE s.boxes a
 rw [hu]at a
 cases d<;>first|exact fE s.boxes a|skip
 rcases x with p|_|_|_|_|_|_|_|_|_|_|_|_<;>first|exact fE s.boxes a|skip
 obtain⟨h1, -, -⟩:=tR a
 cases h1
 cases f
 exact⟨goInt 0,by simp [Fc,run_underlying hu],.d (.int _ _),rfl⟩
end
end Go.Dw
