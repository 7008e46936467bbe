
import Derived.Test.YthadlbjoiidkjaaGreatDoorDwJoin
import Derived.Shelf.Strconv.Itoa3

namespace Go.Dw
open Go.Proofs Go.Shelf Go.RowKit Go.Lib
def u7(n:Int):Option (List UInt8):=if-9223372036854775808<=n∧n<=9223372036854775807 then some (Lib.itoa n)else none
def Aj:pT:=fun _ args bs=>
 match args,bs with
 | [.d (.int .i64 n)],[]=>(match u7 n with|some r=>some (.d (.str r),[])|none=>none)
 |_,_=>none
theorem zx{P:Program}{H:Hints}{ext:FuncId->Option pT}{f:FuncId}(hx:ext f=some Aj){a:Int}{r:List UInt8}(h:u7 a=some r):EvP P H ext f [.d (.int .i64 a)] [] (.d (.str r),[]):=by
 refine Ev.lib hx ?_
 simp only [Aj,h]
theorem itoa_ok {P : Program} {ρ : Go.Shelf.Ren} (L : LaysM.n171 P ρ) {base : uT} (hE : ¬base.mono) {g : Nat} {t : TypeId} {fz : Nat × Nat} (hg : P.globalNamed "internal/strconv.uint64pow10" = some g)
  (ho:(g,Obj.cells (Lib.pow10Tab.map fun z=>Value.int .u64 z).toArray t fz)∈base.objs) (hent:Enters P (ρ.f 171)) (args:List RV) (bs:List Box) (r:RV) (bs':List Box)
  (h:Aj (ρ.f 171) args bs=some (r,bs')):rG P base (ρ.f 171) args bs r bs':=by
 unfold Aj at h
 split at h
 rotate_left
 ·cases h
 rename_i n
 split at h
 rotate_left
 ·cases h
 rename_i q hq
 simp only [Option.some.injEq,Prod.mk.injEq]at h
 obtain⟨rfl,rfl⟩:=h
 intro S w ls vs hmem hlen0 hbase hobj hlenv harg
 obtain⟨v0,rfl⟩:∃v0,vs= #[v0]:=by
  obtain⟨k⟩:=vs
  match k,hlenv with
  | [v0],_=>exact⟨v0,rfl⟩
 have a0:=harg 0 _ v0 rfl rfl
 have e0:=a0.p9
 subst e0
 obtain rfl:ls=[]:=List.eq_nil_of_length_eq_zero hlen0
 unfold u7 at hq
 split at hq
 rotate_left
 ·cases hq
 rename_i hn
 cases hq
 have htab : Lib.TabIs P w "internal/strconv.uint64pow10" .u64 Lib.pow10Tab := by
  obtain⟨h1,_⟩:=hobj _ ho
  simp only [Lib.TabIs,World.var?,hg,zc,h1]
 have hc:=Any.strconv_Itoa L n hn.1 hn.2 w htab
 refine .inl ⟨hent,hc.mono ?_⟩
 rintro e w' ⟨rfl,k,os,rfl⟩
 have hb:Below w.heap.size w (Sort.grow (w.drewN k) os):=⟨rfl,rfl,rfl,by simp [Sort.grow],fun b hb=>by simp [Sort.grow,Array.getElem?_append_left,hb]⟩
 exact ⟨_, rfl, S, [], tI hE hmem hb (.d (.str _)) fun ad u hu => by
  have h1:=hmem.imm _ _ hu
  have h2:=sa h1
  simpa [World.cell?,hb.block _ h2]using h1⟩
end Go.Dw
