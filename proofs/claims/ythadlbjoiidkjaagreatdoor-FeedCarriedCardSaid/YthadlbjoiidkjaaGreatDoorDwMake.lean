
import Derived.Test.YthadlbjoiidkjaaGreatDoorDwCopy
import Derived.Laws.OwnMore
import Derived.Lib.AppendZeros

namespace Go.Dw
section
variable {P:Program}{X:Ctx}{S:pR}{loc:qe}{s:St}{tm:Array Value}{w:World}
theorem BH{z:Value}{k:Nat}(hs:z.cells.size=k+1)(n:Nat):madeCells z.cells (n*(k+1))=Builtin.zeroCells z.cells n:=by
 simp [madeCells,Builtin.zeroCells,hs]
theorem w8(h:Sim P X S loc s tm w){id:Nat}{t:TypeId}{l c v:RV}{u:Ups}{r:List Nat}{vl vc:Value}(hd:rP P id t l c s.boxes=some ((v,u),r,true))(hl:R S loc l vl)(hc:R S loc c vc):
  ∃v' w' loc',(Instr.makeSlice t vl vc).run P w= .ok v' w'∧Sim P X S loc' (s.ups u) tm w'∧R S loc' v v':=by
 unfold rP at hd
 rcases he:rf P t with _|e
 ·simp only [he]at hd;exact fE s.boxes hd
 simp only [he]at hd
 rcases l with p|_|_|_|_|_|_|_|_|_|_|_|_<;>first|exact fE s.boxes hd|skip
 cases p<;>first|exact fE s.boxes hd|skip
 rcases c with p|_|_|_|_|_|_|_|_|_|_|_|_<;>first|exact fE s.boxes hd|skip
 cases p<;>first|exact fE s.boxes hd|skip
 rename_i k1 n k2 m
 have e1:=hl.p9
 have e2:=hc.p9
 subst e1;subst e2
 have hu:=qU he
 rcases hk:szT P e with _|_|k
 ·simp only [hk]at hd;exact fE s.boxes hd
 ·simp only [hk]at hd;exact fE s.boxes hd
 rcases hb:rZ P e with _|by_
 ·simp only [hk,hb]at hd;exact fE s.boxes hd
 rcases hz:(qQ P e).bind qW with _|z
 ·simp only [hk,hb,hz]at hd;exact fE s.boxes hd
 simp only [hk,hb,hz]at hd
 obtain⟨_,r1,r2,h1,h2,_⟩:=M.bind_some hd
 obtain⟨hv,_,_⟩:=M.qo h1
 obtain⟨h5, -,h6⟩:=M.pN (b:=s.boxes) h2
 cases h5
 simp only [Bool.true_eq,Bool.and_eq_true,decide_eq_true_eq,beq_iff_eq]at h6
 obtain⟨⟨hnm,h0,hbt,hmx⟩,hzk⟩:=h6
 obtain⟨zv,hz1,hz2⟩:=Option.bind_eq_some_iff.1 hz
 obtain⟨i,hi,hiz⟩:=ry hz1
 have hsz:i.size=k+1:=by simpa [szT,hi]using hk
 have hby:i.bytes=by_:=by simpa [rZ,hi]using hb
 obtain⟨n,rfl⟩:∃q:Nat,n=(q:Int):=⟨n.toNat,za⟩
 obtain⟨m,rfl⟩:∃q:Nat,m=(q:Int):=⟨m.toNat,za⟩
 have hnm':n<=m:=by omega
 simp only [Int.toNat_natCast]at hbt hmx h2⊢
 have hrun := run_make (P := P) w t e i zv hu hi hiz k1 k2 n m za hnm (by
  have:((i.bytes*m:Nat):Int)<=281474976710656:=by rw [hby,Nat.mul_comm];omega
  rwa [Int.natCast_mul]at this) za
 simp only [Int.toNat_natCast]at hrun
 rw [hsz]at hrun
 have hzc:zv.cells.size=k+1:=by
  have:=(yH (S:=S) hz2).1
  omega
 obtain⟨hfl,hfn⟩:=ru (S:=S) hz2 hzk n
 obtain⟨_,hfm⟩:=ru (S:=S) hz2 hzk m
 rw [BH hzc]at hrun
 have hown:(w.alloc (.cells (Builtin.zeroCells zv.cells m) e)).ownsRow 0 e (k+1) (.slice (some ⟨w.heap.size,0,none⟩) n m) n (Builtin.zeroCells zv.cells n).toList:=by
  refine⟨hfn,.inr ⟨w.heap.size,m,_,rfl,Nat.zero_le _,heap_alloc_new w _,hnm',by simp [maxLen];omega,?_,?_⟩⟩
  ·rw [<-Array.length_toList,hfm]
  ·have hle:n*(k+1)<=m*(k+1):=Nat.mul_le_mul_right _ hnm'
   simp only [Builtin.zeroCells,hzc,Array.toList_map,Array.toList_range, <-List.map_take,List.take_range,Nat.min_eq_left hle]
 obtain ⟨loc', g1, g2, _⟩ := h.vn hv (Step.alloc w _) hk (hdr := .slice (some ⟨w.heap.size, 0, none⟩) n m) (es := List.replicate n z) (xs := (Builtin.zeroCells zv.cells n).toList) (.inl (.of (by rw [List.length_replicate]; exact hown))) hfl (fun g hg => by
   cases m with
   |zero=>simp [rk]at hg
   |succ m=>simp [rk]at hg;omega) rfl
 exact⟨_,_,loc',hrun,g1,g2⟩
theorem zR(h:Sim P X S loc s tm w){id:Nat}{t t' ty:TypeId}{l c v:RV}{u:Ups}{r:List Nat}{vl vc:Value}(hd:vI P id t t' l c s.boxes=some ((v,u),r,true))(hl:R S loc l vl)(hc:R S loc c vc):
  ∃v' w' loc',(Builtin.append_ #[t,t'] ty #[vl,vc]).run P w= .ok v' w'∧Sim P X S loc' (s.ups u) tm w'∧R S loc' v v':=by
 unfold vI at hd
 rcases he:rf P t with _|e
 ·simp only [he]at hd;exact fE s.boxes hd
 rcases hu':P.underlying t' with _|d'
 ·simp only [he,hu']at hd;exact fE s.boxes hd
 simp only [he,hu']at hd
 cases d'<;>first|exact fE s.boxes hd|skip
 rcases l with p|_|_|_|_|_|_|_|_|_|_|_|_<;>first|exact fE s.boxes hd|skip
 rcases c with p|_|_|_|_|_|_|_|_|_|_|_|_<;>first|exact fE s.boxes hd|skip
 cases p<;>first|exact fE s.boxes hd|skip
 rename_i kn k1 n
 have e1:=hc.p9
 subst e1
 cases hl
 have hu:=qU he
 rcases hk:szT P e with _|_|k
 ·simp only [hk]at hd;exact fE s.boxes hd
 ·simp only [hk]at hd;exact fE s.boxes hd
 rcases hb:rZ P e with _|by_
 ·simp only [hk,hb]at hd;exact fE s.boxes hd
 rcases hz:(qQ P e).bind qW with _|z
 ·simp only [hk,hb,hz]at hd;exact fE s.boxes hd
 simp only [hk,hb,hz]at hd
 obtain⟨_,r1,r2,h1,h2,_⟩:=M.bind_some hd
 obtain⟨hv,_,_⟩:=M.qo h1
 obtain⟨h5, -,h6⟩:=M.pN (b:=s.boxes) h2
 cases h5
 simp only [Bool.true_eq,Bool.and_eq_true,decide_eq_true_eq,beq_iff_eq]at h6
 obtain⟨⟨h0,hbt,hmx⟩,hzk⟩:=h6
 obtain⟨zv,hz1,hz2⟩:=Option.bind_eq_some_iff.1 hz
 obtain⟨i,hi,hiz⟩:=ry hz1
 have hsz:i.size=k+1:=by simpa [szT,hi]using hk
 have hby:i.bytes=by_:=by simpa [rZ,hi]using hb
 obtain⟨n,rfl⟩:∃q:Nat,n=(q:Int):=⟨n.toNat,za⟩
 simp only [Int.toNat_natCast]at hbt hmx h2⊢
 have h0':0<n:=by omega
 have hrun:=Lib.run_append_nil_zeros (P:=P) w t t' ty e i zv k1 kn hu hu' hi hiz n h0' za za (by rw [hby];omega)
 have hge:=grownCap_ge w n 0 e
 have hle:=grownCap_le_maxLen w n 0 e (by simp [maxLen];omega)
 have hzc:zv.cells.size=k+1:=by
  have:=(yH (S:=S) hz2).1
  omega
 obtain⟨hfl,hfn⟩:=ru (S:=S) hz2 hzk n
 obtain⟨_,hfm⟩:=ru (S:=S) hz2 hzk (grownCap w n 0 e-n)
 have hst:Step none w (w.drew.alloc (.cells (Builtin.zeroCells zv.cells n++Builtin.zeroCells zv.cells (grownCap w n 0 e-n)) e)):=(Step.drew w).trans (Step.alloc w.drew _)
 have hown:(w.drew.alloc (.cells (Builtin.zeroCells zv.cells n++Builtin.zeroCells zv.cells (grownCap w n 0 e-n)) e)).ownsRow 0 e (k+1) (.slice (some ⟨w.heap.size,0,none⟩) n (grownCap w n 0 e)) n (Builtin.zeroCells zv.cells n).toList:=by
  refine⟨hfn,.inr ⟨w.heap.size,grownCap w n 0 e,_,rfl,Nat.zero_le _,heap_alloc_new w.drew _,hge,hle,?_,?_⟩⟩
  ·rw [Array.size_append, <-Array.length_toList, <-Array.length_toList,hfn,hfm, <-Nat.add_mul]
   congr 1
   omega
  ·rw [Array.toList_append,List.take_append_of_le_length (by rw [hfn];exact Nat.le_refl _),List.take_of_length_le (by rw [hfn];exact Nat.le_refl _)]
 obtain ⟨loc', g1, g2, _⟩ := h.vn hv hst hk (hdr := .slice (some ⟨w.heap.size, 0, none⟩) n (grownCap w n 0 e)) (es := List.replicate n z) (xs := (Builtin.zeroCells zv.cells n).toList) (.inl (.of (by rw [List.length_replicate]; exact hown))) hfl (fun g hg => by
   cases hc:grownCap w n 0 e with
   |zero=>omega
   |succ c=>rw [hc]at hg;simp [rk]at hg;omega) rfl
 exact⟨_,_,loc',hrun,g1,g2⟩
theorem AQ(h:Sim P X S loc s tm w){t ty:TypeId}{x v:RV}{u:Ups}{r:List Nat}{vx:Value}(hl:capD P t x s.boxes=some ((v,u),r,true))(hx:R S loc x vx):
  ∃v',(Builtin.cap_ #[t] ty #[vx]).run P w= .ok v' w∧R S loc v v'∧u=[]:=by
 unfold capD at hl
 rcases hu:P.underlying t with _|d
 ·simp only [hu]at hl;exact fE s.boxes hl
 rw [hu]at hl
 cases d<;>first|exact fE s.boxes hl|skip
 rcases x with p|_|_|_|_|_|_|_|_|_|_|_|_<;>first|exact fE s.boxes hl|skip
 obtain⟨h1, -, -⟩:=pQ hl
 cases h1
 cases hx
 exact⟨goInt 0,by simp [Builtin.cap_,run_underlying hu],.d (.int _ _),rfl⟩
end
end Go.Dw
