
import Derived.Test.YtgiepghgloiinaaGreatDoorDwUpto
open Option renaming bind_eq_some_iff->DD
open Option.some renaming inj->BT, injEq->AD

namespace Go.Dw
theorem wx{info:TypeId->Option TypeInfo}{a:Array Field}{i:TypeInfo}(h:Made.reckonStruct info a=some i):∃out,i.desc= .struct out:=by
 unfold Made.reckonStruct at h
 simp only [bind,DD]at h
 obtain⟨r, -,h⟩:=h
 simp only [pure]at h
 split at h<;>(cases h;exact⟨_,rfl⟩)
theorem wv{info:TypeId->Option TypeInfo}{c:Array Field}{i:TypeInfo}(h:Made.reckonStruct info c=some i):(∀k,i.desc≠ .int k)∧∀a b,i.desc≠ .named a b:=by
 obtain⟨out,e⟩:=wx h
 rw [e]
 exact⟨sm,sm⟩
theorem reckon_desc{info:TypeId->Option TypeInfo}{d:TypeDesc}{i:TypeInfo}(h:Made.reckon info d=some i):(∀k,i.desc≠ .int k)∧∀a b,i.desc≠ .named a b:=by
 unfold Made.reckon at h
 split at h
 all_goals first
  |exact wv h
  |(cases h;done)
  |skip
 ·simp only [bind,DD,pure]at h
  obtain⟨j, -,h⟩:=h
  split at h
  ·cases h
  ·split at h
   ·cases h
   ·simp only [DD,AD]at h
    obtain⟨_, -,rfl⟩:=h
    exact⟨by simp [Made.word],by simp [Made.word]⟩
  ·simp only [DD,AD]at h
   obtain⟨_, -,rfl⟩:=h
   exact⟨by simp [Made.word],by simp [Made.word]⟩
 all_goals
  simp only [bind,DD,pure,AD]at h
 ·obtain⟨_, -,_, -,rfl⟩:=h
  exact⟨by simp [Made.word],by simp [Made.word]⟩
 ·obtain⟨_, -,_, -,_, -,_, -,rfl⟩:=h
  exact⟨by simp [Made.word],by simp [Made.word]⟩
 ·obtain⟨_, -,_, -,rfl⟩:=h
  exact⟨by simp [Made.word],by simp [Made.word]⟩
 ·obtain⟨_, -,rfl⟩:=h
  exact⟨by simp [Made.word],by simp [Made.word]⟩
 ·obtain⟨_, -,_, -,rfl⟩:=h
  exact⟨sm,sm⟩
theorem vU{T:Tables}{f t:Nat}{i:TypeInfo}(ht:¬t<T.types.size)(h:Made.infoAt T f t=some i):(∀k,i.desc≠ .int k)∧∀a b,i.desc≠ .named a b:=by
 cases f with
 |zero=>cases h
 |succ f=>
  unfold Made.infoAt at h
  rw [if_neg ht,DD]at h
  obtain⟨d, -,h⟩:=h
  exact reckon_desc h
theorem wide8_of{P:Program}(l:(List.range P.types.size).all (fun i=>match P.underlying i with|some (.int .i64)=>decide (8<=P.bytesOf i)|_=>true)=true):tU P:=by
 intro e he
 by_cases f:e<P.types.size
 ·have:=List.all_eq_true.1 l e (List.mem_range.2 f)
  rw [he]at this
  exact of_decide_eq_true this
 ·exfalso
  unfold Program.underlying at he
  cases hi:P.info? e with
  |none=>rw [hi]at he;cases he
  |some i=>
   have hd := vU (T := P.toTables) f (by
    have k:P.toTables.info? e=some i:=hi
    unfold Tables.info? at k
    rwa [if_neg f]at k)
   rw [hi]at he
   split at he
   ·rename_i a b c d g
    cases g
    exact hd.2 _ _ rfl
   ·rename_i j _ g
    cases g
    exact hd.1 _ (BT he)
   ·cases he
theorem oS{H:Type}{P:Program}{n:Nat}:∀{ts a:List TypeId}{b gs:List (DataW H)},n∈DataW.weightsEach P ts b->n∈DataW.weightsEach P (ts++a) (b++gs)
 | [],_,_,_,h=>by simp [DataW.weightsEach]at h
 |_::_,_,[],_,h=>by simp [DataW.weightsEach]at h
 |t::ts,a,d::b,gs,h=>by
  simp only [List.cons_append,DataW.weightsEach]at h⊢
  rcases List.mem_append.1 h with h|h
  ·exact List.mem_append.2 (.inl h)
  ·exact List.mem_append.2 (.inr (oS h))
end Go.Dw
