
import Derived.Test.YthadlbjoiidkjaaGreatDoorProg
import Derived.Test.YthadlbjoiidkjaaGreatDoorDwGrow
import Derived.Test.YthadlbjoiidkjaaGreatDoorDwArg
import Derived.Test.YthadlbjoiidkjaaGreatDoorDwIns
import Derived.WalkKit
import Derived.Lib.Walk
import Derived.Lib.SliceRun
import Derived.Lib.Overlaps
import Derived.Laws.Externs
import Derived.Laws.IdiomCopy
import Derived.Lib.AppendZerosOnto
import Derived.Laws.NewBlocks
import Derived.Shelf.RegionOpenPlain

namespace Go.Proofs
open Go.RowKit Go.Lib
section
variable {P:Program}
theorem wp_copy_runK(w:World){o:Oper}{a:Act}{K:Act->World->Prop}{Q:Exit->Act->World->Prop}(d s:Operand)(t t':TypeId)
    (ho:o.op= .call { callee:= .builtin .copy,args:= #[d,s],argTypes:= #[t,t'] }) (v u:Value) (hd:a.eval d=v) (hs:a.eval s=u) {v':Value} {w':World}
    (hr:(Builtin.copy_ #[t,t'] o.type #[v,u]).run P w= .ok v' w') (h:K (a.put o.dst v') w'):o.wp P a w K Q:=by
  unfold Oper.wp execOp
  simp only [ho,resolve,invoke,builtin,Sem.run_bind,Sem.run_pure,Result.andThen_ok,List.map_toArray,List.map_cons,List.map_nil,hd,hs,hr]
  exact h
theorem ju(w:World){ops:Array Oper}{rest:List Oper}{o:Oper}{a:Act}{Q:Exit->Act->World->Prop}(hgd:o.guard=none)(d s:Operand)(t t':TypeId)
    (ho:o.op= .call { callee:= .builtin .copy,args:= #[d,s],argTypes:= #[t,t'] }) (v u:Value) (hd:a.eval d=v) (hs:a.eval s=u) {v':Value} {w':World}
    (hr:(Builtin.copy_ #[t,t'] o.type #[v,u]).run P w= .ok v' w') (h:wpList P ops Q rest (a.put o.dst v') w'):wpList P ops Q (o::rest) a w:=
  wpList_plain hgd fun _ hK=>wp_copy_runK w d s t t' ho v u hd hs hr (hK _ _ h)
theorem nW{ops:Array Oper}{o:Oper}{a:Act}{w:World}{K:Act->World->Prop}{Q:Exit->Act->World->Prop}{E:Prop}
    (hg:o.guard=none) (d x:Operand) (dT sT:TypeId) (hop:o.op=Op.call { callee:=Callee.builtin Builtin.copy,args:= #[d,x],argTypes:= #[dT,sT] })
    (v u:Value) (hd:a.eval d=v) (hx:a.eval x=u) {v':Value} {w':World} (hr:(Builtin.copy_ #[dT,sT] o.type #[v,u]).run P w= .ok v' w') (hK:K (a.put o.dst v') w'):
    if Region.wanted o (yielded ops a.tmps)=true then Oper.wp P o a w K Q else E:=by
  have hw:Region.wanted o (yielded ops a.tmps)=true:=by simp [Region.wanted,hg]
  rw [if_pos hw]
  unfold Oper.wp
  simp [execOp,hop,resolve,invoke,builtin,hd,hx,hr,Result.andThen]
  exact hK
theorem lZ(b:Nat)(vs:List Value)(o:Nat)(w:World)(h:∀j,j<vs.length->(w.cell? ⟨b,o+j,none⟩).isSome=true)(k:Nat)(hk:(w.cell? ⟨b,k,none⟩).isSome=true):((w.setCells b o vs).cell? ⟨b,k,none⟩).isSome=true:=by
  by_cases hin:o<=k∧k<o+vs.length
  · have:=World.cell?_setCells_in b vs o w h (k-o) (by omega)
    rw [show o+(k-o)=k by omega]at this
    rw [this];rfl
  · rw [World.cell?_setCells_out b vs o w ⟨b,k,none⟩ (fun _ _=>by show k<o∨o+vs.length<=k;omega)]
    exact hk
theorem gL(w:World)(dT sT ty elem:TypeId)(k b o dLen dCap:Nat)(a:Addr)(sLen sCap:Nat)(cs:List Value)
    (hu:P.underlying dT=some (.slice elem)) (hs:(P.info? elem).map (·.size)=some k) (hn:cs.length=Nat.min sLen dLen*k)
    (hsrc:∀j v,cs[j]? =some v->w.cell? (a.add j)=some v) (hc:∀j,j<cs.length->(w.cell? ⟨b,o+j,none⟩).isSome=true) (hf:∀j,j<cs.length->w.frozen? ⟨b,o+j,none⟩=false) (h1:∀v∈cs,v.oneCell'=true):
    (Builtin.copy_ #[dT,sT] ty #[.slice (some ⟨b,o,none⟩) dLen dCap,.slice (some a) sLen sCap]).run P w= .ok (goInt (Nat.min sLen dLen:Nat)) (w.setCells b o cs):=by
  have hl:=run_loadCells_list (P:=P) w a cs hsrc
  have hst:=run_storeCells_cells (P:=P) b o cs 0 w (by simpa using hc) (by simpa using hf) h1
  cases hq:P.info? elem with
  |none=>simp [hq]at hs
  |some i=>
    have hi:i.size=k:=by simpa [hq]using hs
    simp [Builtin.copy_,run_underlying hu,Builtin.lenOf,Builtin.firstCells,sizeOf,typeInfo,hq,hi, <-hn,hl,hst]
end
set_option maxHeartbeats 4000000 in
set_option maxRecDepth 100000 in
theorem ins_shift(b n c i vb vc:Nat)(cs vs:List Value)(w:World)(hi:i<n)(hroom:n+1<=c)(hc63:c<=9223372036854775807)(hvb:vb≠b)
    (hcl:cs.length=n*3) (hvl:vs.length=3)
    (hcs:∀j v,cs[j]? =some v->w.cell? ⟨b,j,none⟩=some v) (hsp:∀j,j<(n+1)*3->(w.cell? ⟨b,j,none⟩).isSome=true) (hfz:∀j,w.frozen? ⟨b,j,none⟩=false)
    (hvs:∀j v,vs[j]? =some v->w.cell? ⟨vb,j,none⟩=some v) (h1c:∀v∈cs,v.oneCell'=true) (h1v:∀v∈vs,v.oneCell'=true)
    (tA tB:TypeId) (kA kB:Nat) (hsa:w.shape? vb=some (tA,kA)) (hsb:w.shape? b=some (tB,kB)) (hkB:kB≠0) (hfa:∀j,w.frozen? ⟨vb,j,none⟩=false):
    Calls Tryz.prog 124 #[.slice (some ⟨b,0,none⟩) n c,.int .i64 i,.slice (some ⟨vb,0,none⟩) 1 vc] w fun e w'=>
      e= .returned (.slice (some ⟨b,0,none⟩) (n+1) c)∧w'=(w.drew.setCells b ((i+1)*3) (cs.drop (i*3))).setCells b (i*3) vs:=by
  have hz2:¬((i:Int)=(n:Int)):=by omega
  have hsz:(Tryz.prog.info? 210).map (·.size)=some 3:=by kernel_rfl
  have hov:∀lb cb,(callFunc 188 #[.slice (some ⟨vb,0,none⟩) 1 vc,.slice (some ⟨b,(i+1)*3,none⟩) lb cb]).run Tryz.prog w= .ok (.value (.bool false)) w:=fun lb cb=>by
    rw [run_callFunc_extern Tryz.func188 (by kernel_rfl) (by kernel_rfl) (by kernel_rfl) (e := Extern.SlicesOverlaps.overlaps #[72, 72] #[4]) (by kernel_rfl),
      Lib.run_overlaps_apart w 72 4 210 Tryz.underlying72 3 Tryz.sizeOf210 ⟨vb,0,none⟩ ⟨b,(i+1)*3,none⟩ 1 vc lb cb hvb tA tB kA kB hsa hsb hkB (hfa _) (hfa _)]
    rfl
  have hdl:(cs.drop (i*3)).length=(n-i)*3:=by rw [List.length_drop,hcl];omega
  have mixed:Tryz.prog.follows .mixedOrders=true:=by kernel_rfl
  have hw1:IntKind.i64.wrap ((i:Int)+1)=(i:Int)+1:=by rw [IntKind.wrap_i64];omega
  have hb1:(0:Int)<=(i:Int)+1:=by omega
  have htn:((i:Int)+1).toNat=i+1:=by omega
  have hi3:(i+1)*3<=(n+1)*3:=by omega
  have hin:i<=n:=by omega
  have hb2:¬(c=i+1):=by omega
  have hb4:¬(c=i):=by omega
  have hb3:(i:Int)<=(n:Int)+1:=by omega
  have hin2:i<=n+1:=by omega
  have hcp1:∀ty dc sc,(Builtin.copy_ #[72,72] ty #[.slice (some ⟨b,(i+1)*3,none⟩) (n-i) dc,.slice (some ⟨b,i*3,none⟩) (n+1-i) sc]).run Tryz.prog w.drew= .ok (goInt (Nat.min (n+1-i) (n-i):Nat)) (w.drew.setCells b ((i+1)*3) (cs.drop (i*3))):=fun ty dc sc=>
    gL w.drew _ _ ty 210 3 b ((i+1)*3) (n-i) dc ⟨b,i*3,none⟩ (n+1-i) sc (cs.drop (i*3)) Tryz.underlying72 hsz (by rw [hdl,show Nat.min (n+1-i) (n-i)=n-i by show min _ _=_;omega])
      (fun j v hj=>by rw [Addr.add_lit];exact hcs (i*3+j) v (by rwa [List.getElem?_drop]at hj))
      (fun j hj=>hsp _ (by omega)) (fun j hj=>hfz _) (fun v hv=>h1c v (List.mem_of_mem_drop hv))
  obtain⟨W1,hW1⟩:∃W1,W1=w.drew.setCells b ((i+1)*3) (cs.drop (i*3)):=⟨_,rfl⟩
  have hsp1:∀k,k<(n+1)*3->(W1.cell? ⟨b,k,none⟩).isSome=true:=fun k hk=>by
    rw [hW1]
    exact lZ b (cs.drop (i*3)) ((i+1)*3) w.drew (fun j hj=>hsp _ (by rw [hdl]at hj;omega)) _ (hsp k hk)
  have hcp2:∀(W:World),(∀x,W.cell? x=W1.cell? x)->(∀x,W.frozen? x=W1.frozen? x)->∀ty dc,(Builtin.copy_ #[72,72] ty #[.slice (some ⟨b,i*3,none⟩) (n+1-i) dc,.slice (some ⟨vb,0,none⟩) 1 vc]).run Tryz.prog W= .ok (goInt (Nat.min 1 (n+1-i):Nat)) (W.setCells b (i*3) vs):=fun W hWc hWf ty dc=>
    gL W _ _ ty 210 3 b (i*3) (n+1-i) dc ⟨vb,0,none⟩ 1 vc vs Tryz.underlying72 hsz (by rw [hvl,show Nat.min 1 (n+1-i)=1 by show min _ _=_;omega])
      (fun j v hj => by
        rw [Addr.add_lit,hWc,hW1,World.cell?_setCells_out b _ _ _ _ (fun h _=>absurd h hvb),Nat.zero_add]
        exact hvs j v hj)
      (fun j hj=>by rw [hWc];exact hsp1 _ (by omega)) (fun j hj=>by rw [hWf,hW1,World.frozen?_setCells];exact hfz _) h1v
  rw [<-hW1]at hcp1
  go_enter Tryz.func124,Tryz.ntmps124
  go_wp2_with (simp only [hov])
  go_region_law_o (refine nW rfl _ _ 72 72 rfl _ _ (by simp [Act.eval,Act.put]) (by simp [Act.eval,Act.put]) (hcp1 _ _ _) ?_)
  go_wp2_with (at_builtin;refine ju _ rfl _ _ 72 72 rfl _ _ rfl rfl (hcp2 _ (fun _=>rfl) (fun _=>rfl) _ _) ?_)
  go_ret
  first|exact⟨rfl,rfl⟩|exact⟨rfl,by rw [hW1]⟩
set_option maxHeartbeats 4000000 in
set_option maxRecDepth 100000 in
theorem ins_grow(b n c i vb vc:Nat)(cs vs:List Value)(w:World)(hi:i<n)(hnc:n<=c)(hroom:c<n+1)(hbig:(n+1)*32<=140737488355328)
    (hcl:cs.length=n*3) (hvl:vs.length=3)
    (hcs:∀j v,cs[j]? =some v->w.cell? ⟨b,j,none⟩=some v)
    (hvs:∀j v,vs[j]? =some v->w.cell? ⟨vb,j,none⟩=some v) (h1c:∀v∈cs,v.oneCell'=true) (h1v:∀v∈vs,v.oneCell'=true)
    {i0:TypeInfo} {z:Value} (hi0:Tryz.prog.info? 210=some i0) (hz0:i0.zero=some z) (hzs:i0.size=3) (hzb:i0.bytes=32) (hzc:z.cells.size=3):
    Calls Tryz.prog 124 #[.slice (some ⟨b,0,none⟩) n c,.int .i64 i,.slice (some ⟨vb,0,none⟩) 1 vc] w fun e w'=>
      e= .returned (.slice (some ⟨w.heap.size,0,none⟩) (n+1) (grownCap w (n+1) c 210))∧
      w'=(((w.alloc (.cells ((cs.take (i*3)).toArray++Builtin.zeroCells z.cells (n+1-i)++Builtin.zeroCells z.cells (grownCap w (n+1) c 210-(n+1))) 210)).drew.setCells w.heap.size (i*3) vs).drew).setCells w.heap.size ((i+1)*3) (cs.drop (i*3)):=by
  have hz2:¬((i:Int)=(n:Int)):=by omega
  have hz3:(c:Int)<(n:Int)+1:=by omega
  have hsz:(Tryz.prog.info? 210).map (·.size)=some 3:=by kernel_rfl
  have mixed:Tryz.prog.follows .mixedOrders=true:=by kernel_rfl
  have hbw:b<w.heap.size:=block_lt_of_cell (hcs 0 _ (List.getElem?_eq_getElem (by omega)))
  have hvw:vb<w.heap.size:=block_lt_of_cell (hvs 0 _ (List.getElem?_eq_getElem (by omega)))
  have hkk:(n:Int)+1-(i:Int)=((n+1-i:Nat):Int):=by omega
  have hik:i+(n+1-i)=n+1:=by omega
  have hold:(Builtin.firstCells i0.size i (.slice (some ⟨b,0,none⟩) i c)).run Tryz.prog w.drew= .ok (cs.take (i*3)).toArray w.drew:=by
    rw [hzs]
    exact run_firstCells_some w.drew 3 i ⟨b, 0, none⟩ i c (cs.take (i * 3)) (by rw [List.length_take]; omega) (fun j v hj => by
      rw [Addr.add_lit,Nat.zero_add]
      rw [List.getElem?_take]at hj
      split at hj
      · exact hcs j v hj
      · cases hj)
  have hrz:∀ty,(Builtin.append_ #[72,3] ty #[.slice (some ⟨b,0,none⟩) i c,.int .i64 ((n:Int)+1-(i:Int))]).run Tryz.prog w=
      .ok (.slice (some ⟨w.heap.size,0,none⟩) (n+1) (grownCap w (n+1) c 210)) (w.drew.alloc (.cells ((cs.take (i*3)).toArray++Builtin.zeroCells z.cells (n+1-i)++Builtin.zeroCells z.cells (grownCap w (n+1) c 210-(n+1))) 210)):=fun ty=>by
    have h:=Lib.run_append_grow_zeros w 72 3 ty 210 i0 _ .i64 .i64 Tryz.underlying72 Tryz.underlying3 hi0 hz0 (some ⟨b,0,none⟩) i c (cs.take (i*3)) hold (n+1-i) (by omega) (by omega) (by omega) (by omega) (by rw [hzb];omega) (by rw [hzb,hik];exact growslice_fits hroom hbig)
    rw [hik]at h
    rw [hkk]
    exact h
  obtain⟨G,hG⟩:∃G,G=grownCap w (n+1) c 210:=⟨_,rfl⟩
  obtain⟨ROW,hROW⟩:∃ROW:Array Value,ROW=(cs.take (i*3)).toArray++Builtin.zeroCells z.cells (n+1-i)++Builtin.zeroCells z.cells (G-(n+1)):=⟨_,rfl⟩
  rw [<-hG]at hrz⊢
  rw [<-hROW]at hrz⊢
  have hRl:(n+1)*3<=ROW.size:=by
    rw [hROW]
    simp only [Array.size_append,List.size_toArray,size_zeroCells,hzc,List.length_take]
    omega
  obtain⟨W1,hW1⟩:∃W1,W1=w.drew.alloc (.cells ROW 210):=⟨_,rfl⟩
  rw [<-hW1]at hrz
  have hN:∀j,j<(n+1)*3->(W1.cell? ⟨w.heap.size,j,none⟩).isSome=true:=fun j hj=>by
    rw [hW1,World.cell?_alloc_at (w:=w.drew) ROW _ w.heap.size j rfl,Array.getElem?_eq_getElem (by omega)];rfl
  have hNf:∀j,W1.frozen? ⟨w.heap.size,j,none⟩=false:=fun j=>by rw [hW1];exact World.frozen?_alloc_at (w:=w.drew) ROW _ w.heap.size j rfl
  have hOb:∀j v,w.cell? ⟨b,j,none⟩=some v->W1.cell? ⟨b,j,none⟩=some v:=fun j v h=>by rw [hW1,World.cell?_alloc_past (w:=w.drew) _ b j hbw];exact h
  have hOv:∀j v,w.cell? ⟨vb,j,none⟩=some v->W1.cell? ⟨vb,j,none⟩=some v:=fun j v h=>by rw [hW1,World.cell?_alloc_past (w:=w.drew) _ vb j hvw];exact h
  have hcpA:∀(W:World),(∀x,W.cell? x=W1.cell? x)->(∀x,W.frozen? x=W1.frozen? x)->∀ty dc,(Builtin.copy_ #[72,72] ty #[.slice (some ⟨w.heap.size,i*3,none⟩) (n+1-i) dc,.slice (some ⟨vb,0,none⟩) 1 vc]).run Tryz.prog W= .ok (goInt (Nat.min 1 (n+1-i):Nat)) (W.setCells w.heap.size (i*3) vs):=fun W hWc hWf ty dc=>
    gL W _ _ ty 210 3 w.heap.size (i*3) (n+1-i) dc ⟨vb,0,none⟩ 1 vc vs Tryz.underlying72 hsz (by rw [hvl,show Nat.min 1 (n+1-i)=1 by show min _ _=_;omega])
      (fun j v hj=>by rw [Addr.add_lit,hWc,Nat.zero_add];exact hOv _ v (hvs j v hj))
      (fun j hj=>by rw [hWc];exact hN _ (by omega)) (fun j hj=>by rw [hWf];exact hNf _) h1v
  have hGn:n+1<=G:=by rw [hG];exact grownCap_ge w _ _ _
  have hG63:G<=9223372036854775807:=by
    have:=grownCap_le_maxLen w (n+1) c 210 (by unfold maxLen;omega)
    rw [<-hG]at this
    unfold maxLen at this
    omega
  have hGi:¬(G=i):=by omega
  have hGim:¬(G=i+1):=by omega
  have hci:¬(c=i):=by omega
  have hbN:b≠w.heap.size:=by omega
  have hdl:(cs.drop (i*3)).length=(n-i)*3:=by rw [List.length_drop,hcl];omega
  have hcpB:∀(W:World),(∀x,W.cell? x=(W1.setCells w.heap.size (i*3) vs).cell? x)->(∀x,W.frozen? x=(W1.setCells w.heap.size (i*3) vs).frozen? x)->∀ty dc sc,(Builtin.copy_ #[72,72] ty #[.slice (some ⟨w.heap.size,(i+1)*3,none⟩) (n-i) dc,.slice (some ⟨b,i*3,none⟩) (n-i) sc]).run Tryz.prog W= .ok (goInt (Nat.min (n-i) (n-i):Nat)) (W.setCells w.heap.size ((i+1)*3) (cs.drop (i*3))):=fun W hWc hWf ty dc sc=>
    gL W _ _ ty 210 3 w.heap.size ((i+1)*3) (n-i) dc ⟨b,i*3,none⟩ (n-i) sc (cs.drop (i*3)) Tryz.underlying72 hsz (by rw [hdl,show Nat.min (n-i) (n-i)=n-i by show min _ _=_;omega])
      (fun j v hj => by
        rw [Addr.add_lit,hWc,World.cell?_setCells_out _ _ _ _ _ (fun h _=>absurd h hbN)]
        exact hOb _ v (hcs (i*3+j) v (by rwa [List.getElem?_drop]at hj)))
      (fun j hj=>by rw [hWc];exact lZ _ vs (i*3) W1 (fun t ht=>hN _ (by omega)) _ (hN _ (by omega)))
      (fun j hj=>by rw [hWf,World.frozen?_setCells];exact hNf _) (fun v hv=>h1c v (List.mem_of_mem_drop hv))
  subst hW1
  have hE1:∀x,((w.alloc (.cells ROW 210)).drew).cell? x=(w.drew.alloc (.cells ROW 210)).cell? x:=fun x=>rfl
  have hE2:∀x,((w.alloc (.cells ROW 210)).drew).frozen? x=(w.drew.alloc (.cells ROW 210)).frozen? x:=fun x=>rfl
  have hF1:∀x,(((w.alloc (.cells ROW 210)).drew.setCells w.heap.size (i*3) vs).drew).cell? x=((w.drew.alloc (.cells ROW 210)).setCells w.heap.size (i*3) vs).cell? x:=fun x=>rfl
  have hF2:∀x,(((w.alloc (.cells ROW 210)).drew.setCells w.heap.size (i*3) vs).drew).frozen? x=((w.drew.alloc (.cells ROW 210)).setCells w.heap.size (i*3) vs).frozen? x:=fun x=>rfl
  have hw1:IntKind.i64.wrap ((i:Int)+1)=(i:Int)+1:=by rw [IntKind.wrap_i64];omega
  have hb1:(0:Int)<=(i:Int)+1:=by omega
  have hin:i<=n:=by omega
  have htn:((i:Int)+1).toNat=i+1:=by omega
  have hb3:(i:Int)<=(n:Int):=by omega
  clear hkk hik hold hROW hG hRl
  go_enter Tryz.func124,Tryz.ntmps124
  go_wp2_with (first
    |(at_builtin;refine Lib.wpList_append_run _ rfl _ _ _ _ rfl _ _ rfl rfl _ _ (hrz _) ?_)
    |(at_builtin;refine ju _ rfl _ _ 72 72 rfl _ _ rfl rfl (hcpA _ hE1 hE2 _ _) ?_)
    |(at_builtin;refine ju _ rfl _ _ 72 72 rfl _ _ rfl rfl (hcpB _ (fun _=>rfl) (fun _=>rfl) _ _ _) ?_))
  go_region_law_o (refine nW rfl _ _ 72 72 rfl (.slice (some ⟨w.heap.size,(i+1)*3,none⟩) (n-i) (G-(i+1))) (.slice (some ⟨b,i*3,none⟩) (n-i) (c-i)) (by simp [Act.eval,Act.put]) (by simp [Act.eval,Act.put]) (hcpB _ hF1 hF2 3 (G-(i+1)) (c-i)) ?_)
  go_wp2
  go_ret
  exact⟨rfl,rfl⟩
end Go.Proofs
namespace Go.Dw
open Go.Proofs Go.Lib Go.RowKit
theorem ku{w:World}{g o:Nat}{cur:Array Value}{t:TypeId}{vs:List Value}(hg:w.heap[g]? =some (.cells cur t (0,0)))(hl:o+vs.length<=cur.size)(h1:∀v∈vs,v.oneCell'=true):
    w.setCells g o vs=w.setRow g (cur.toList.take o++vs++cur.toList.drop (o+vs.length)).toArray:=by
  have a1 := run_storeCells_cells (P := Tryz.prog) g o vs 0 w (fun j hj => by
      have:o+j<cur.size:=by omega
      simp [World.cell?,hg,this]) (fun j hj=>by simp [World.frozen?,hg]) h1
  have a2:=run_storeCells_at Tryz.prog g o t vs 0 cur w hg (by simpa using hl) h1
  rw [a1]at a2
  simpa using a2
theorem ins_list{xs ys:List Value}{i n c:Nat}{cur:List Value}(hx:cur.take (n*3)=xs)(hxl:xs.length=n*3)(hyl:ys.length=3)(hi:i<n)(hc:(n+1)*3<=cur.length):
    let cur1:=cur.take ((i+1)*3)++xs.drop (i*3)++cur.drop ((i+1)*3+(xs.drop (i*3)).length)
    (cur1.take (i*3)++ys++cur1.drop (i*3+ys.length)).take ((n+1)*3)=xs.take (i*3)++ys++xs.drop (i*3):=by
  intro cur1
  have hA:(cur.take ((i+1)*3)).length=(i+1)*3:=by rw [List.length_take];omega
  have e1:cur1.take (i*3)=xs.take (i*3):=by
    show(cur.take ((i+1)*3)++xs.drop (i*3)++cur.drop ((i+1)*3+(xs.drop (i*3)).length)).take (i*3)=_
    rw [List.append_assoc,List.take_append_of_le_length (by omega),List.take_take, <-hx,List.take_take]
    congr 1;omega
  have e2:cur1.drop (i*3+ys.length)=xs.drop (i*3)++cur.drop ((i+1)*3+(xs.drop (i*3)).length):=by
    show(cur.take ((i+1)*3)++xs.drop (i*3)++cur.drop ((i+1)*3+(xs.drop (i*3)).length)).drop (i*3+ys.length)=_
    rw [List.append_assoc,hyl,show i*3+3=(cur.take ((i+1)*3)).length by omega,List.drop_left]
  rw [e1,e2, <-List.append_assoc]
  refine List.take_left' ?_
  rw [List.length_append,List.length_append,List.length_take,List.length_drop]
  omega
set_option maxRecDepth 100000 in
set_option maxHeartbeats 4000000 in
theorem ins_calls{w:World}{S:pR}{v vv:Value}{n i:Nat}{xs ys:List Value}{ms:List PD}(hrow:rowAt w 210 3 v n xs)(hrow2:rowAt w 210 3 vv 1 ys)(hms:ms.length=1)(hf:Flat S 3 ms ys)(hne:∀b,rk v=some b->rk vv≠some b)(hi:i<=n)(hbig:(n+1)*32<=140737488355328)(h1c:∀u∈xs,u.oneCell'=true)
    {i0:TypeInfo} {z:Value} (hi0:Tryz.prog.info? 210=some i0) (hz0:i0.zero=some z) (hzs:i0.size=3) (hzb:i0.bytes=32) (hzc:z.cells.size=3):
    Calls Tryz.prog 124 #[v,.int .i64 i,vv] w fun e w'=>∃v' news,e= .returned v'∧Flat S 3 ms news∧rowAt w' 210 3 v' (n+1) (xs.take (i*3)++news++xs.drop (i*3))∧Step (rk v) w w'∧v'.oneCell'=true∧∀g,rk v'=some g->rk v=some g∨w.heap.size<=g:=by
  have hxl:=hrow.len
  have hyl:ys.length=3:=by simpa using hrow2.len
  have hm2:=hrow2.xc (by omega)
  obtain⟨vb,vc,rfl⟩:=ta hm2 (by omega)
  have hvs:=hm2.cells rfl
  have h1v:∀u∈ys,u.oneCell'=true:=fun u hu=>hf.one u hu
  by_cases hin:i=n
  · subst hin
    have hA:Appd w S 3 (.slice (some ⟨vb,0,none⟩) 1 vc) ms:=⟨some ⟨vb,0,none⟩,vc,ys,by rw [hms],by rw [hms,hyl],hf,fun _=>⟨_,rfl,hvs⟩⟩
    obtain⟨v1,w1,news,hrun,hr,hnf,hst,ho,hg⟩:=wb (P:=Tryz.prog) (t:=72) (ty:=72) (e:=210) (by_:=31) Tryz.underlying72 hi0 hz0 hzs hzb hzc (by omega) hrow hA (by rw [hms];exact hbig)
    rw [hms]at hr
    have mixed:Tryz.prog.follows .mixedOrders=true:=by kernel_rfl
    have key:Calls Tryz.prog 124 #[v,.int .i64 i,.slice (some ⟨vb,0,none⟩) 1 vc] w fun e w'=>e= .returned v1∧w'=w1:=by
      obtain⟨a,c,rfl,hc⟩:=hrow.hdr
      go_enter Tryz.func124,Tryz.ntmps124
      cases a with
      |none=>
        go_wp2_with (at_builtin;refine Lib.wpList_append_run _ rfl _ _ _ _ rfl _ _ rfl rfl _ _ hrun ?_)
        all_goals (go_ret;exact⟨rfl,rfl⟩)
      |some a=>
        obtain⟨ab,ao,asp⟩:=a
        go_wp2_with (at_builtin;refine Lib.wpList_append_run _ rfl _ _ _ _ rfl _ _ rfl rfl _ _ hrun ?_)
        all_goals (go_ret;exact⟨rfl,rfl⟩)
    refine key.mono ?_
    rintro e w' ⟨rfl,rfl⟩
    refine⟨v1,news,rfl,hnf,?_,hst,ho,hg⟩
    rw [<-hxl,List.take_length,List.drop_length,List.append_nil]
    exact hr
  · have hlt:i<n:=by omega
    have hm1:=hrow.xc (by omega)
    obtain⟨b,c,rfl⟩:=ta hm1 (by omega)
    have hcs:=hm1.cells rfl
    obtain⟨-,hm1⟩:=hm1
    rcases hm1 with⟨h, -⟩|⟨b',c',cur,fz,h,hfz,hcell,hnc,hcm,hcz,htk⟩
    · cases h
    cases h
    obtain⟨-,hm2⟩:=hm2
    rcases hm2 with⟨h, -⟩|⟨vb',vc',cur2,fz2,h,hfz2,hcell2,hnc2,hcm2,hcz2,htk2⟩
    · cases h
    cases h
    obtain rfl:fz=(0,0):=by rcases hfz with h|⟨-,h⟩;exact h;omega
    obtain rfl:fz2=(0,0):=by rcases hfz2 with h|⟨-,h⟩;exact h;omega
    have hb0:rk (.slice (some ⟨b,0,none⟩) n c)=some b:=by
      cases c with
      |zero=>omega
      |succ c=>rfl
    have hvb0:rk (.slice (some ⟨vb,0,none⟩) 1 vc)=some vb:=by
      cases vc with
      |zero=>omega
      |succ c=>rfl
    have hvbb:vb≠b:=fun e=>hne b hb0 (by rw [hvb0,e])
    have hcs':∀j u,xs[j]? =some u->w.cell? ⟨b,j,none⟩=some u:=fun j u h=>by have:=hcs j u h;rwa [Addr.add_lit,Nat.zero_add]at this
    have hvs':∀j u,ys[j]? =some u->w.cell? ⟨vb,j,none⟩=some u:=fun j u h=>by have:=hvs j u h;rwa [Addr.add_lit,Nat.zero_add]at this
    have hdl:(xs.drop (i*3)).length=(n-i)*3:=by rw [List.length_drop,hxl];omega
    have h1d:∀u∈xs.drop (i*3),u.oneCell'=true:=fun u hu=>h1c u (List.mem_of_mem_drop hu)
    by_cases hroom:n+1<=c
    · have hc63:c<=9223372036854775807:=hcm
      refine(ins_shift b n c i vb vc xs ys w hlt hroom hc63 hvbb hxl hyl hcs' (fun j hj=>?_) (fun j=>?_) hvs' h1c h1v 210 210 cur2.size cur.size ?_ ?_ (by omega) (fun j=>?_)).mono ?_
      · have:j<cur.size:=by omega
        simp [World.cell?,hcell,this]
      · simp [World.frozen?,hcell]
      · simp [World.shape?,hcell2]
      · simp [World.shape?,hcell]
      · simp [World.frozen?,hcell2]
      rintro e w' ⟨rfl,rfl⟩
      have q1:=ku (w:=w.drew) (g:=b) (o:=(i+1)*3) (cur:=cur) (t:=210) (vs:=xs.drop (i*3)) hcell (by rw [hdl];omega) h1d
      have q2:=setRow_heap w.drew b cur (cur.toList.take ((i+1)*3)++xs.drop (i*3)++cur.toList.drop ((i+1)*3+(xs.drop (i*3)).length)).toArray 210 (0,0) hcell
      have hsz1:(cur.toList.take ((i+1)*3)++xs.drop (i*3)++cur.toList.drop ((i+1)*3+(xs.drop (i*3)).length)).length=cur.size:=by
        simp only [List.length_append,List.length_take,List.length_drop,hxl,Array.length_toList];omega
      have q3:=ku (vs:=ys) (o:=i*3) q2 (by rw [List.size_toArray,hsz1,hyl];omega) h1v
      have q4:=setRow_heap _ b _ ((cur.toList.take ((i+1)*3)++xs.drop (i*3)++cur.toList.drop ((i+1)*3+(xs.drop (i*3)).length)).toArray.toList.take (i*3)++ys++(cur.toList.take ((i+1)*3)++xs.drop (i*3)++cur.toList.drop ((i+1)*3+(xs.drop (i*3)).length)).toArray.toList.drop (i*3+ys.length)).toArray 210 (0,0) q2
      rw [q1,q3]
      have hL:=ins_list (cur:=cur.toList) (c:=c) htk hxl hyl hlt (by rw [Array.length_toList];omega)
      refine⟨.slice (some ⟨b,0,none⟩) (n+1) c,ys,rfl,hf,.inl ⟨?_,.inr ⟨b,c,_,(0,0),rfl,.inl rfl,q4,hroom,hcm,?_,?_⟩⟩,?_,rfl,fun g hg=>.inl ?_⟩
      · simp only [List.length_append,List.length_take,List.length_drop,hxl,hyl];omega
      · simp only [List.size_toArray,List.length_append,List.length_take,List.length_drop,hxl,hyl,Array.length_toList];omega
      · simpa using hL
      · rw [hb0]
        exact((Step.drew w).mono.trans (Step.setRow _ b _)).trans (Step.setRow _ b _)
      · cases c with
        |zero=>omega
        |succ c=>exact hg
    · have hc:c=n:=by omega
      subst hc
      refine(ins_grow b c c i vb vc xs ys w hlt (Nat.le_refl _) (by omega) hbig hxl hyl hcs' hvs' h1c h1v hi0 hz0 hzs hzb hzc).mono ?_
      rintro e w' ⟨rfl,rfl⟩
      have hge:=grownCap_ge w (c+1) c 210
      have hmx:=grownCap_le_maxLen w (c+1) c 210 (by unfold maxLen;omega)
      generalize grownCap w (c+1) c 210=G at hge hmx⊢
      have hR0:(xs.take (i*3)).length=i*3:=by rw [List.length_take];omega
      generalize hROW:((xs.take (i*3)).toArray++Builtin.zeroCells z.cells (c+1-i)++Builtin.zeroCells z.cells (G-(c+1)))=ROW
      have hRs:ROW.size=G*3:=by
        rw [<-hROW]
        simp only [Array.size_append,List.size_toArray,size_zeroCells,hzc,hR0];omega
      have hRt:ROW.toList.take (i*3)=xs.take (i*3):=by
        rw [<-hROW]
        simp only [Array.toList_append,List.append_assoc]
        exact List.take_left' hR0
      have q0:((w.alloc (.cells ROW 210)).drew).heap[w.heap.size]? =some (.cells ROW 210 (0,0)):=heap_alloc_new w _
      have q1:=ku (vs:=ys) (o:=i*3) q0 (by rw [hyl];omega) h1v
      have q2:=setRow_heap _ w.heap.size ROW (ROW.toList.take (i*3)++ys++ROW.toList.drop (i*3+ys.length)).toArray 210 (0,0) q0
      have hsz1:(ROW.toList.take (i*3)++ys++ROW.toList.drop (i*3+ys.length)).length=G*3:=by
        simp only [List.length_append,List.length_take,List.length_drop,hyl,Array.length_toList,hRs];omega
      rw [q1]
      generalize hW2:((w.alloc (.cells ROW 210)).drew).setRow w.heap.size (ROW.toList.take (i*3)++ys++ROW.toList.drop (i*3+ys.length)).toArray=W2 at q2⊢
      have hS2:Step none w W2:=by
        rw [<-hW2]
        refine⟨rfl,rfl,rfl,by simp,fun b hb _=>?_,Nat.le_succ _⟩
        rw [setRow_other _ _ b _ (by omega)]
        exact(Step.alloc w _).block b hb (by simp)
      have q2':W2.drew.heap[w.heap.size]? =some (.cells (ROW.toList.take (i*3)++ys++ROW.toList.drop (i*3+ys.length)).toArray 210 (0,0)):=q2
      have q3:=ku (vs:=xs.drop (i*3)) (o:=(i+1)*3) q2' (by rw [List.size_toArray,hsz1,hdl];omega) h1d
      have q4:=setRow_heap _ w.heap.size _ ((ROW.toList.take (i*3)++ys++ROW.toList.drop (i*3+ys.length)).toArray.toList.take ((i+1)*3)++xs.drop (i*3)++(ROW.toList.take (i*3)++ys++ROW.toList.drop (i*3+ys.length)).toArray.toList.drop ((i+1)*3+(xs.drop (i*3)).length)).toArray 210 (0,0) q2'
      rw [q3]
      have hA:(ROW.toList.take (i*3)++ys).length=(i+1)*3:=by rw [List.length_append,hRt,hR0,hyl];omega
      have hT:(ROW.toList.take (i*3)++ys++ROW.toList.drop (i*3+ys.length)).take ((i+1)*3)=xs.take (i*3)++ys:=by
        rw [<-hA,List.take_left,hRt]
      refine⟨.slice (some ⟨w.heap.size,0,none⟩) (c+1) G,ys,rfl,hf,.inl ⟨?_,.inr ⟨w.heap.size,G,_,(0,0),rfl,.inl rfl,q4,hge,hmx,?_,?_⟩⟩,?_,rfl,fun g hg=>.inr ?_⟩
      · simp only [List.length_append,List.length_take,List.length_drop,hxl,hyl];omega
      · simp only [List.size_toArray,List.length_append,List.length_take,List.length_drop,hxl,hyl,Array.length_toList,hRs];omega
      · simp only []
        rw [hT]
        refine List.take_left' ?_
        simp only [List.length_append,List.length_take,List.length_drop,hxl,hyl];omega
      · have hS3:Step none W2 W2.drew:=Step.drew W2
        refine⟨hS2.os,hS2.tape,hS2.output,?_,fun b' hb' hn'=>?_,?_⟩
        · have:=hS2.size;simp;omega
        · rw [setRow_other _ _ b' _ (by omega)]
          exact hS2.block b' hb' (by simp)
        · exact Nat.le_succ_of_le hS2.drawn
      · have:=rT hg
        cases this
        exact Nat.le_refl _
theorem info210:∃i0 z,Tryz.prog.info? 210=some i0∧i0.zero=some z∧i0.size=3∧i0.bytes=32∧z.cells.size=3:=
  ⟨(Tryz.prog.info? 210).get (by kernel_rfl),((Tryz.prog.info? 210).get (by kernel_rfl)).zero.getD (.bool false),(Option.some_get _).symm,by kernel_rfl,by kernel_rfl,by kernel_rfl,by kernel_rfl⟩
theorem enters124:Enters Tryz.prog 124:=⟨Tryz.f124,Tryz.func124,by decide+kernel,by kernel_rfl⟩
theorem insert_ok(base:uT)(args:List RV)(bs:List Box)(r:RV)(bs':List Box)(h:wE 210 3 32 124 args bs=some (r,bs')):rG Tryz.prog base 124 args bs r bs':=by
  unfold wE at h
  split at h
  rotate_left
  · cases h
  rename_i n e1 es e2 ms
  split at h
  rotate_left
  · cases h
  rename_i hc
  obtain⟨rfl,rfl,h0,hle,hms,hbig,hce,hcm⟩:=hc
  cases h
  obtain⟨i,rfl⟩:∃i:Nat,n=i:=⟨n.toNat,by omega⟩
  rw [Int.toNat_natCast]at hle⊢
  intro S w ls vs hmem hlen0 hbase hobj hlenv harg
  obtain⟨L0,L1,rfl⟩:∃L0 L1,ls=[L0,L1]:=by
    match ls,hlen0 with
    | [a,b],_=>exact⟨a,b,rfl⟩
  obtain⟨v0,v1,v2,rfl⟩:∃v0 v1 v2,vs= #[v0,v1,v2]:=by
    obtain⟨k⟩:=vs
    match k,hlenv with
    | [a,b,c],_=>exact⟨a,b,c,rfl⟩
  have a0:=harg 0 _ v0 rfl rfl
  have a1:=harg 1 _ v1 rfl rfl
  have a2:=harg 2 _ v2 rfl rfl
  have b0:=hmem.rO (id:=0) rfl (L:=L0) rfl
  have b1:=hmem.rO (id:=1) rfl (L:=L1) rfl
  have hsz3:szT Tryz.prog 210=some 3:=by kernel_rfl
  cases b0 with
  |arr _ _ _ sz hdr xs hsz how hfl=>
  cases b1 with
  |arr _ _ _ sz' hdr' ys hsz' how' hfl'=>
  rw [hsz3]at hsz hsz'
  cases hsz
  cases hsz'
  obtain rfl:v0=hdr:=by
    cases a0 with
    |ref _ _ _ L1 ho hL hh=>cases hL;exact(hh _ _ _ _ .arr).2 rfl
  obtain rfl:v2=hdr':=by
    cases a2 with
    |ref _ _ _ L1 ho hL hh=>cases hL;exact(hh _ _ _ _ .arr).2 rfl
  obtain rfl:v1= .int .i64 i:=by
    cases a1 with
    |d hv=>cases hv;rfl
  have hho:v0.oneCell'=true:=by
    cases a0 with
    |ref _ _ _ L1 ho hL hh=>exact ho
  obtain⟨i0,z,g0,g1,g2,g3,g4⟩:=info210
  rw [hms]at how'
  have hdisj:∀b,rk v0=some b->rk v2≠some b:=fun b h1 h2=>by
    have:=hmem.inj 0 1 _ _ b rfl rfl (show rk v0=some b from h1) (show rk v2=some b from h2)
    cases this
  refine .inl ⟨enters124,(ins_calls how how' hms hfl' hdisj hle hbig hfl.one g0 g1 g2 g3 g4).mono ?_⟩
  rintro e w' ⟨v',news,rfl,hnf,hrow,hst,hone,hown⟩
  have hxl:=how.len
  have hnl:news.length=3:=by
    have h1:=hrow.len
    simp only [List.length_append,List.length_take,List.length_drop,hxl]at h1
    omega
  have hlen:(es.take i++ms++es.drop i).length=es.length+1:=by
    simp only [List.length_append,List.length_take,List.length_drop,hms];omega
  have hflat:Flat S 3 (es.take i++ms++es.drop i) (xs.take (i*3)++news++xs.drop (i*3)):=by
    have h1:Flat S 3 (es.take i++ms) (xs.take (i*3)++news):=Flat.append (hfl.take i) (by simp only [List.length_take,hxl];omega) hnf
    exact Flat.append h1 (by simp only [List.length_append,List.length_take,hxl,hnl,hms];omega) (hfl.drop i)
  have hobj0:∀b,rk v0=some b->∃cur t fz,w.heap[b]? =some (.cells cur t fz):=fun b hb=>by
    rcases how with⟨-,⟨rfl, -⟩|⟨g,cap,cur,fz,rfl, -,h, -⟩⟩|⟨-, -,a,rfl⟩
    · cases hb
    · have:=rT hb
      cases this
      exact⟨_,_,_,h⟩
    · cases a<;>cases hb
  have himm:∀ad u,S ad=some u->w'.cell? ad=some u:=fun ad u hu=>by
    have h1:=hmem.imm _ _ hu
    have h2:=sa h1
    have h3:some ad.block≠rk v0:=fun h3=>by
      obtain⟨b,o,sp⟩:=ad
      cases sp with
      |none=>
        have:=hmem.ss 0 _ b rfl (show rk v0=some b from h3.symm) o
        rw [this]at hu;cases hu
      |some s=>
        obtain⟨cur,t,fz,hb⟩:=hobj0 b h3.symm
        simp [World.cell?,hb]at h1
    simpa [World.cell?,hst.block ad.block h2 h3]using h1
  refine⟨v',rfl,S,[.arr 1 210 3 v',.dead],rfl,Nat.le_refl _,Sub.refl S,⟨fun ii bx hbx=>?_,fun ii L hL=>?_,himm,hmem.tJ,fun ii L b hL hbl o=>?_,fun ii jj L L' b hL hL' hb hb'=>?_⟩,fun ad u h=>.inl h,fun ii L hL=>?_,fun k L b hL hbl=>?_,⟨hst.os,hst.tape,hst.output,hst.size,fun b hb hn=>hst.block b hb fun he=>hn ?_,fun _=>hst.drawn⟩,?_⟩
  · match ii,hbx with
    |0,hbx=>
      cases hbx
      exact⟨_,rfl,.arr 1 210 _ 3 v' _ hsz3 (by rw [hlen];exact hrow) hflat⟩
    |1,hbx=>
      cases hbx
      exact⟨_,rfl,.dead _ rfl⟩
  · match ii,hL with
    |0,hL=>exact⟨_,rfl⟩
    |1,hL=>exact⟨_,rfl⟩
  · match ii,hL with
    |0,hL=>
      cases hL
      rcases hown b hbl with h|h
      · exact hmem.ss 0 _ b rfl (show rk v0=some b from h) o
      · cases hS:S ⟨b,o,none⟩with
        |none=>rfl
        |some u=>
          have:=sa (hmem.imm _ _ hS)
          simp at this
          omega
    |1,hL=>cases hL;cases hbl
  · match ii,jj,hL,hL' with
    |0,0,_,_=>rfl
    |1,1,_,_=>rfl
    |0,1,_,hL'=>cases hL';cases hb'
    |1,0,hL,_=>cases hL;cases hb
  · match ii,hL with
    |0,hL=>cases hL;exact⟨_,rfl,.arr (by omega)⟩
    |1,hL=>cases hL;exact⟨_,rfl,.dead _⟩
  · match k,hL with
    |0,hL=>
      cases hL
      rcases hown b hbl with h|h
      · exact .inl (ui.2 ⟨0,_,rfl,h⟩)
      · exact .inr h
    |1,hL=>cases hL;cases hbl
  · exact ui.2 ⟨0,_,rfl,he.symm⟩
  · exact .ref 0 1 v' _ hone rfl fun ver' e' sz' hdr he=>by cases he;exact⟨Nat.le_refl _,fun _=>rfl⟩
end Go.Dw
