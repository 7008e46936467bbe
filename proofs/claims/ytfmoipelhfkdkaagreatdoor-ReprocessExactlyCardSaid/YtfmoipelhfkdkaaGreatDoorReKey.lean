
import Derived.Test.YtfmoipelhfkdkaaGreatDoorReFn
import Derived.Test.YtfmoipelhfkdkaaGreatDoorReKeyW
import Derived.Test.YtfmoipelhfkdkaaGreatDoorDwHand
import Derived.Test.YtfmoipelhfkdkaaGreatDoorDwClone

set_option maxRecDepth 100000
set_option maxHeartbeats 4000000
namespace Go.Dw.Re
open Go.Proofs Go.RowKit Go.Dw
def toP(p:aa):Key.P9:=⟨⟨p.a7.bI.toArray⟩,⟨p.a7.bw.toArray⟩,⟨p.a7.ba.toArray⟩,⟨p.a7.bL.toArray⟩,p.bS,p.bv,p.cg,p.bG,p.bT⟩
theorem toP_key(p:aa):(toP p).key=pH p:=by
  simp [Key.P9.key,Key.P9.src,Key.P9.ns,toP,pH,Key.num]
theorem toP_ok{p:aa}(h:smallP p=true):(toP p).ok:=by
  unfold smallP at h
  rw [Bool.and_eq_true,decide_eq_true_eq]at h
  obtain⟨h1,f⟩:=h
  refine⟨by simpa [toP,ByteArray.size]using h1,fun n g=>?_⟩
  have:=List.all_eq_true.1 f n g
  simpa using this
theorem key_enters:Dw.Enters Tryz.prog 41:=⟨Tryz.f41,Tryz.func41,by decide+kernel,by kernel_rfl⟩
theorem pick_cell{S:rC}{p:aa}{k:Nat}{v u:Value}{q:PD}(f:(toP p).vs[k]? =some v)(g:(aa.pd p).cells[k]? =some q)(hV:V S q u):u=v:=by
  match k with
  |0=>cases f;cases g;cases hV;rfl
  |1=>cases f;cases g;cases hV;rfl
  |2=>cases f;cases g;cases hV;rfl
  |3=>cases f;cases g;cases hV;rfl
  |4=>cases f;cases g;cases hV;rfl
  |5=>cases f;cases g;cases hV;rfl
  |6=>cases f;cases g;cases hV;rfl
  |7=>cases f;cases g;cases hV;rfl
  |8=>cases f;cases g;cases hV;rfl
  |k+9=>cases f
theorem key_ok (base : xF) (hE : ¬base.mono) {g : Nat} {t : TypeId} {fz : Nat × Nat} (hg : Tryz.prog.globalNamed "internal/strconv.uint64pow10" = some g) (ho : (g, Obj.cells (Lib.pow10Tab.map fun z => Value.int .u64 z).toArray t fz) ∈ base.objs)
    (args:List RV) (bs:List Box) (r:RV) (G:List Box) (h:yB (fun l=>.lst (l.map aa.pd)) keyO 41 args bs=some (r,G)):uj Tryz.prog base 41 args bs r G:=by
  obtain⟨l,s,rfl,rfl,hs,rfl,rfl⟩:=BQ h
  intro S w ls vs B D O K E C
  obtain rfl:ls=[]:=List.eq_nil_of_length_eq_zero D
  obtain⟨v0,rfl⟩:∃v0,vs= #[v0]:=by
    obtain⟨k⟩:=vs
    match k,E with
    | [a],_=>exact⟨a,rfl⟩
  have a0:V S (.lst (l.map aa.pd)) v0:=by
    have:=C 0 _ v0 rfl rfl
    cases this with|d h=>exact h
  clear C
  unfold keyO at hs
  split at hs
  rotate_left
  · cases hs
  rename_i hc
  obtain⟨hl,W⟩:=hc
  cases hs
  have N : Lib.TabIs Tryz.prog w "internal/strconv.uint64pow10" .u64 Lib.pow10Tab := by
    obtain⟨h1,_⟩:=K _ ho
    simp only [Lib.TabIs,World.var?,hg,ze,h1]
  have T:∀x∈l.map toP,x.ok:=fun x F=>by
    obtain⟨p,hp,rfl⟩:=List.mem_map.1 F
    exact toP_ok (List.all_eq_true.1 W p hp)
  have J:(l.map toP).flatMap Key.P9.key=l.flatMap pH:=by
    rw [List.flatMap_map]
    exact congrArg (fun f=>l.flatMap f) (funext toP_key)
  obtain⟨ad,c,rfl,L⟩:∃ad c,v0= .slice ad (l.map toP).length c∧∀(j:Nat)x,(l.map toP)[j]? =some x->∃b o,ad=some ⟨b,o,none⟩∧∀(k:Nat)v,x.vs[k]? =some v->w.cell? ⟨b,o+j*9+k,none⟩=some v:=by
    rw [List.length_map]
    generalize I:l.map aa.pd=es at a0
    cases a0 with
    |nil a c=>
      obtain rfl:l=[]:=List.map_eq_nil_iff.1 I
      exact⟨a,c,rfl,fun j x F=>by simp at F⟩
    |lst es b o c sz f a5 X hS hV=>
      subst I
      refine⟨some ⟨b,o,none⟩,c,zc,fun j x F=>?_⟩
      rw [List.getElem?_map,Option.map_eq_some_iff]at F
      obtain⟨p,hp,rfl⟩:=F
      have Q:(l.map aa.pd)[j]? =some (aa.pd p):=by rw [List.getElem?_map,hp];rfl
      obtain rfl:sz=9:=(X _ (List.mem_of_getElem? Q)).symm
      refine⟨b,o,rfl,fun k v hv=>?_⟩
      obtain⟨q,U⟩:∃q,(aa.pd p).cells[k]? =some q:=by
        have h1:k<(toP p).vs.length:=(List.getElem?_eq_some_iff.1 hv).1
        have H:(aa.pd p).cells.length=(toP p).vs.length:=rfl
        exact⟨_,zf (H▸h1)⟩
      have h1:=hS j _ k _ Q U
      have H:=hV j _ k _ Q U
      rw [pick_cell hv U H]at h1
      exact B.imm _ _ h1
  refine .inl ⟨key_enters,(Key.walk ad c (l.map toP) w (by simpa using hl) T L N).mono ?_⟩
  rintro e w' ⟨rfl,Y⟩
  rw [J]
  exact ⟨_, rfl, S, [], CG hE B Y (.d (.str _)) fun ad u hu => by
    have h1:=B.imm _ _ hu
    have H:=wg h1
    simpa [World.cell?,Y.block _ H]using h1⟩
end Go.Dw.Re
