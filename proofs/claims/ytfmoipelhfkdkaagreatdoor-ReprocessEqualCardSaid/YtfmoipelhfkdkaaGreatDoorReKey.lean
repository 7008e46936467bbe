
import Derived.Test.YtfmoipelhfkdkaaGreatDoorReFn
import Derived.Test.YtfmoipelhfkdkaaGreatDoorReKeyW
import Derived.Test.YtfmoipelhfkdkaaGreatDoorDwHand
import Derived.Test.YtfmoipelhfkdkaaGreatDoorDwClone

set_option maxRecDepth 100000
set_option maxHeartbeats 4000000
namespace Go.Dw.Re
open Go.Proofs Go.RowKit Go.Dw
def toP(p:aa):Key.P9:=⟨⟨p.a7.bI.toArray⟩,⟨p.a7.bw.toArray⟩,⟨p.a7.bc.toArray⟩,⟨p.a7.bL.toArray⟩,p.bT,p.bu,p.co,p.bH,p.bN⟩
theorem toP_key(p:aa):(toP p).key=pY p:=by
  simp [Key.P9.key,Key.P9.src,Key.P9.ns,toP,pY,Key.num]
theorem toP_ok{p:aa}(h:smallP p=true):(toP p).ok:=by
  unfold smallP at h
  rw [Bool.and_eq_true,decide_eq_true_eq]at h
  obtain⟨h1,f⟩:=h
  refine⟨by simpa [toP,ByteArray.size]using h1,fun n g=>?_⟩
  have:=List.all_eq_true.1 f n g
  simpa using this
theorem key_enters:Dw.Enters Tryz.prog 41:=⟨Tryz.f41,Tryz.func41,by decide+kernel,by kernel_rfl⟩
theorem pick_cell{S:rP}{p:aa}{k:Nat}{v u:Value}{q:PD}(f:(toP p).vs[k]? =some v)(g:(aa.pd p).cells[k]? =some q)(hV:V S q u):u=v:=by
  match k with
  |0=>cases f;cases g;cases hV;rfl
  |1=>cases f;cases g;cases hV;rfl
  |2=>cases f;cases g;cases hV;rfl
  |3=>cases f;cases g;cases hV;rfl
  |4=>cases f;cases g;cases hV;rfl
  |5=>cases f;cases g;cases hV;rfl
  |6=>cases f;cases g;cases hV;rfl
  |7=>cases f;cases g;cases hV;rfl
  |8=>cases f;cases g;cases hV;rfl
  |k+9=>cases f
theorem key_ok (base : xT) (hE : ¬base.mono) {g : Nat} {t : TypeId} {fz : Nat × Nat} (hg : Tryz.prog.globalNamed "internal/strconv.uint64pow10" = some g) (ho : (g, Obj.cells (Lib.pow10Tab.map fun z => Value.int .u64 z).toArray t fz) ∈ base.objs)
    (args:List RV) (bs:List Box) (r:RV) (H:List Box) (h:yR (fun l=>.lst (l.map aa.pd)) keyO 41 args bs=some (r,H)):uC Tryz.prog base 41 args bs r H:=by
  obtain⟨l,s,rfl,rfl,hs,rfl,rfl⟩:=Cc h
  intro S w ls vs C E Q L F D
  obtain rfl:ls=[]:=List.eq_nil_of_length_eq_zero E
  obtain⟨v0,rfl⟩:∃v0,vs= #[v0]:=by
    obtain⟨k⟩:=vs
    match k,F with
    | [a],_=>exact⟨a,rfl⟩
  have a0:V S (.lst (l.map aa.pd)) v0:=by
    have:=D 0 _ v0 rfl rfl
    cases this with|d h=>exact h
  clear D
  unfold keyO at hs
  split at hs
  rotate_left
  · cases hs
  rename_i hc
  obtain⟨hl,X⟩:=hc
  cases hs
  have O : Lib.TabIs Tryz.prog w "internal/strconv.uint64pow10" .u64 Lib.pow10Tab := by
    obtain⟨h1,_⟩:=L _ ho
    simp only [Lib.TabIs,World.var?,hg,ze,h1]
  have U:∀x∈l.map toP,x.ok:=fun x G=>by
    obtain⟨p,hp,rfl⟩:=List.mem_map.1 G
    exact toP_ok (List.all_eq_true.1 X p hp)
  have K:(l.map toP).flatMap Key.P9.key=l.flatMap pY:=by
    rw [List.flatMap_map]
    exact congrArg (fun f=>l.flatMap f) (funext toP_key)
  obtain⟨ad,c,rfl,N⟩:∃ad c,v0= .slice ad (l.map toP).length c∧∀(j:Nat)x,(l.map toP)[j]? =some x->∃b o,ad=some ⟨b,o,none⟩∧∀(k:Nat)v,x.vs[k]? =some v->w.cell? ⟨b,o+j*9+k,none⟩=some v:=by
    rw [List.length_map]
    generalize J:l.map aa.pd=es at a0
    cases a0 with
    |nil a c=>
      obtain rfl:l=[]:=List.map_eq_nil_iff.1 J
      exact⟨a,c,rfl,fun j x G=>by simp at G⟩
    |lst es b o c sz f a5 Y hS hV=>
      subst J
      refine⟨some ⟨b,o,none⟩,c,zc,fun j x G=>?_⟩
      rw [List.getElem?_map,Option.map_eq_some_iff]at G
      obtain⟨p,hp,rfl⟩:=G
      have T:(l.map aa.pd)[j]? =some (aa.pd p):=by rw [List.getElem?_map,hp];rfl
      obtain rfl:sz=9:=(Y _ (List.mem_of_getElem? T)).symm
      refine⟨b,o,rfl,fun k v hv=>?_⟩
      obtain⟨q,W⟩:∃q,(aa.pd p).cells[k]? =some q:=by
        have h1:k<(toP p).vs.length:=(List.getElem?_eq_some_iff.1 hv).1
        have I:(aa.pd p).cells.length=(toP p).vs.length:=rfl
        exact⟨_,zf (I▸h1)⟩
      have h1:=hS j _ k _ T W
      have I:=hV j _ k _ T W
      rw [pick_cell hv W I]at h1
      exact C.imm _ _ h1
  refine .inl ⟨key_enters,(Key.walk ad c (l.map toP) w (by simpa using hl) U N O).mono ?_⟩
  rintro e w' ⟨rfl,hb⟩
  rw [K]
  exact ⟨_, rfl, S, [], CZ hE C hb (.d (.str _)) fun ad u hu => by
    have h1:=C.imm _ _ hu
    have I:=wA h1
    simpa [World.cell?,hb.block _ I]using h1⟩
end Go.Dw.Re
