
import Derived.Test.YthadlbjoiidkjaaGreatDoorDwJoin
import Derived.Shelf.Strconv.AtoiAll
import Derived.Lib.AtoiErrMem

namespace Go.Dw
open Go.Proofs Go.Shelf Go.RowKit Go.Lib
def xX(s:List UInt8):Option (Int×Bool):=
 if s.length<=140737488355328 then
  match Lib.atoiAll s with
  | .ok v=>some (v,true)
  | .range=>some (Lib.atoiSat s,false)
  |_=>some (0,false)
 else none
def zU:pT:=fun _ args bs=>
 match args,bs with
 | [.d (.str s)],[]=>(match xX s with|some r=>some (.tup [.d (.int .i64 r.1),(.err r.2)],[])|none=>none)
 |_,_=>none
theorem atoi_ev{P:Program}{H:Hints}{ext:FuncId->Option pT}{f:FuncId}(hx:ext f=some zU){a:List UInt8}{r:Int×Bool}(h:xX a=some r):EvP P H ext f [.d (.str a)] [] (.tup [.d (.int .i64 r.1),(.err r.2)],[]):=by
 refine Ev.lib hx ?_
 simp only [zU,h]
theorem R.tup2{S:pR}{loc:qe}{a b:RV}{u v:Value}(ha:R S loc a u)(hb:R S loc b v):R S loc (.tup [a,b]) (.tuple #[u,v]):=
 .tup _ _ rfl fun i c x hc hx=>by
  match i with
  |0=>simp at hc hx;subst hc hx;exact ha
  |1=>simp at hc hx;subst hc hx;exact hb
  |i+2=>simp at hc
theorem atoi_ok{P:Program}{ρ:Go.Shelf.Ren}(L:LaysC.n172 P ρ){base:uT}(hE:¬base.mono){te te':TypeId}{pe pe':Value}(hs:base.snap ⟨ρ.g 15,0,none⟩=some (.iface te pe))(hr:base.snap ⟨ρ.g 16,0,none⟩=some (.iface te' pe'))(hent:Enters P (ρ.f 172))(args:List RV)(bs:List Box)(r:RV)(bs':List Box)
  (h:zU (ρ.f 172) args bs=some (r,bs')):rG P base (ρ.f 172) args bs r bs':=by
 unfold zU at h
 split at h
 rotate_left
 ·cases h
 rename_i s
 split at h
 rotate_left
 ·cases h
 rename_i q hq
 simp only [Option.some.injEq,Prod.mk.injEq]at h
 obtain⟨rfl,rfl⟩:=h
 intro S w ls vs hmem hlen0 hbase hobj hlenv harg
 obtain⟨v0,rfl⟩:∃v0,vs= #[v0]:=by
  obtain⟨k⟩:=vs
  match k,hlenv with
  | [v0],_=>exact⟨v0,rfl⟩
 have a0:=harg 0 _ v0 rfl rfl
 cases a0 with
 |d a0=>
 cases a0
 obtain rfl:ls=[]:=List.eq_nil_of_length_eq_zero hlen0
 have py:∀w',Below w.heap.size w w'->∀ad u,S ad=some u->w'.cell? ad=some u:=fun w' hb ad u hu=>by
  have h1:=hmem.imm _ _ hu
  have h2:=sa h1
  simpa [World.cell?,hb.block _ h2]using h1
 unfold xX at hq
 split at hq
 rotate_left
 ·cases hq
 rename_i hlen
 have hlim:(⟨s.toArray⟩:ByteArray).size<=281474976710656:=by show s.toArray.size<=_;simp;omega
 cases hat:Lib.atoiAll s with
 |ok v=>
  rw [hat]at hq
  cases hq
  have hc:=Any.strconv_Atoi_ok L ⟨s.toArray⟩ za v (by simpa using hat) w
  refine .inl ⟨hent,hc.mono ?_⟩
  rintro e w' ⟨rfl,hw⟩
  have hb:Below w.heap.size w w':=by
   rcases hw with rfl|⟨t,rfl⟩
   ·exact Below.refl _ _
   ·exact Lib.bytesWorld_below _ _ _
  exact⟨_,rfl,S,[],tI hE hmem hb (R.tup2 (.d (.int _ _)) .noerr) (py _ hb)⟩
 |range=>
  rw [hat]at hq
  cases hq
  have hc:=Any.strconv_Atoi_range L ⟨s.toArray⟩ hlim (by simpa using hat) (.iface te' pe') w (hmem.imm _ _ (hbase _ _ hr)) (.inr ⟨te',pe',rfl⟩)
  refine .inl ⟨hent,hc.mono ?_⟩
  rintro e w' ⟨N,rfl,_,_,hb⟩
  exact⟨_,rfl,S,[],tI hE hmem hb (R.tup2 (.d (.int _ _)) (.err _ _)) (py _ hb)⟩
 |_=>
  rw [hat]at hq
  cases hq
  have hc:=Any.strconv_Atoi_syntax L ⟨s.toArray⟩ hlim (by simpa using hat) (.iface te pe) w (hmem.imm _ _ (hbase _ _ hs)) (.inr ⟨te,pe,rfl⟩)
  refine .inl ⟨hent,hc.mono ?_⟩
  rintro e w' ⟨N,rfl,_,_,hb⟩
  exact⟨_,rfl,S,[],tI hE hmem hb (R.tup2 (.d (.int _ _)) (.err _ _)) (py _ hb)⟩
end Go.Dw
