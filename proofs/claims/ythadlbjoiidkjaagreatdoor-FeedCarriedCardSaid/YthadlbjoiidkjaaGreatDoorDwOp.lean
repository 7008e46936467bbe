
import Derived.Test.YthadlbjoiidkjaaGreatDoorDwIfc
import Derived.Test.YthadlbjoiidkjaaGreatDoorDwEq
import Derived.Lib.ConvBytes
import Derived.Laws.IdiomStrings
import Derived.Laws.BytesArg

namespace Go.Dw
section
variable {P:Program}{X:Ctx}{S:pR}{loc:qe}{s:St}{w:World}{a:Act}
theorem xb(h:Sim P X S loc s a.tmps w):∀{xs:List Operand}{l:List RV},rV s xs=some l->l.length=xs.length∧∀(i:Nat)x v,l[i]? =some x->(xs.map a.eval)[i]? =some v->R S loc x v
 | [],l,hl=>by
  simp only [rV,Option.some.injEq]at hl
  subst hl
  exact⟨rfl,fun i x v hx=>by simp at hx⟩
 |x::xs,l,hl=>by
  simp only [rV]at hl
  rcases h1:s.opd x with _|v
  ·simp [h1]at hl
  rcases h2:rV s xs with _|r
  ·simp [h1,h2]at hl
  simp only [h1,h2,Option.some.injEq]at hl
  subst hl
  obtain⟨g1,g2⟩:=xb h h2
  refine⟨by simp [g1],fun i y u hy hu=>?_⟩
  cases i with
  |zero=>
   simp only [List.getElem?_cons_zero,Option.some.injEq,List.map_cons]at hy hu
   subst hy;subst hu
   exact h.opd h1
  |succ i=>simp only [List.getElem?_cons_succ,List.map_cons]at hy hu;exact g2 i y u hy hu
theorem uc(h:Sim P X S loc s a.tmps w):∀{xs:List (Nat×Operand)}{l:List (Nat×RV)},qZ s xs=some l->Parts S loc l (xs.map fun(i,x)=>(i,a.eval x))
 | [],l,hl=>by
  simp only [qZ,Option.some.injEq]at hl
  subst hl
  exact⟨rfl,fun i x v hx=>by simp at hx⟩
 |(k,x)::xs,l,hl=>by
  simp only [qZ]at hl
  rcases h1:s.opd x with _|v
  ·simp [h1]at hl
  rcases h2:qZ s xs with _|r
  ·simp [h1,h2]at hl
  simp only [h1,h2,Option.some.injEq]at hl
  subst hl
  obtain⟨g1,g2⟩:=uc h h2
  refine⟨by simpa using g1,fun i y u hy hu=>?_⟩
  cases i with
  |zero=>
   simp only [List.getElem?_cons_zero,Option.some.injEq,List.map_cons]at hy hu
   subst hy;subst hu
   exact⟨rfl,h.opd h1⟩
  |succ i=>simp only [List.getElem?_cons_succ,List.map_cons]at hy hu;exact g2 i y u hy hu
theorem rR(h:Sim P X S loc s a.tmps w){x:Option Operand}{v:Option RV}(hx:qk s x=some v):RO S loc v (x.map a.eval):=by
 cases x with
 |none=>simp only [qk,Option.some.injEq]at hx;subst hx;exact .none
 |some x=>
  simp only [qk]at hx
  rcases h1:s.opd x with _|r
  ·simp [h1]at hx
  simp only [h1,Option.some.injEq]at hx
  subst hx
  exact .some (h.opd h1)
theorem z6{src dst:TypeId}{x:RV}{p:PD}{v:Value}(h:convD P src dst x=some (p,true))(hx:R S loc x v):∃v',(convert src dst v).run P w= .ok v' w∧V S p v':=by
 unfold convD at h
 rcases h1:P.underlying src with _|d1
 ·simp [h1]at h
 rcases h2:P.underlying dst with _|d2
 ·cases d1<;>simp [h1,h2]at h
 cases d1<;>cases d2<;>first|(simp [h1,h2]at h;done)|skip
 all_goals (rcases x with p'|_|_|_|_|_|_|_|_|_|_|_|_<;>first|(simp [h1,h2]at h;done)|skip)
 all_goals (cases p'<;>first|(simp [h1,h2]at h;done)|skip)
 ·simp only [h1,h2,Option.some.injEq,Prod.mk.injEq,and_true]at h
  subst h
  have:=hx.p9
  subst this
  exact⟨_,by simp [convert,run_underlying h1,run_underlying h2,Conv.intToInt],.int _ _⟩
 ·simp only [h1,h2,Option.some.injEq,Prod.mk.injEq,and_true]at h
  subst h
  have:=hx.uM
  subst this
  exact⟨_,by simp [convert,run_underlying h1,run_underlying h2],.str _⟩
theorem AP(w:World)(e:TypeId)(b:ByteArray):Step none w (Lib.bytesWorld w e b):=
 ⟨rfl,rfl,rfl,by rw [Lib.bytesWorld_size];omega,fun j hj _=>Lib.bytesWorld_at_old w e b j hj,Nat.le_succ _⟩
theorem zY(P:Program)(id:Nat)(src dst:TypeId)(x:RV):(∃e str,P.underlying src=some .string∧P.underlying dst=some (.slice e)∧x= .d (.str str))∨(∃e i ver,P.underlying src=some (.slice e)∧P.underlying dst=some .string∧x= .ref i ver)∨(∃e es,P.underlying src=some (.slice e)∧P.underlying dst=some .string∧x= .d (.lst es))∨
  tM P id src dst x=uQ (convD P src dst x):=by
 unfold tM
 split
 ·exact .inl ⟨_,_,by assumption,by assumption,rfl⟩
 ·exact .inr (.inl ⟨_,_,_,by assumption,by assumption,rfl⟩)
 ·exact .inr (.inr (.inl ⟨_,_,by assumption,by assumption,rfl⟩))
 ·exact .inr (.inr (.inr rfl))
theorem AS(h:Sim P X S loc s a.tmps w){src dst e:TypeId}{ns:List Int}{vx:Value}(hs:P.underlying src=some (.slice e))(he:P.underlying e=some (.int .u8))(hd:P.underlying dst=some .string)(hx:V S (.lst (ns.map (.int .u8))) vx):
  (convert src dst vx).run P w= .ok (.string ⟨(vH ns).toArray⟩) w:=by
 generalize hes:ns.map (PD.int .u8)=es at hx
 cases hx with
 |nil a c=>
  obtain rfl:=List.map_eq_nil_iff.1 hes
  rw [run_convert_bytes_string w src dst e a 0 c hs he hd]
  cases a<;>simp [Conv.bytesToString,loadCells,loadCellsFrom,vH,Sem.run_pure]<;>rfl
 |lst _ b o c sz f hc hsz hS hV=>
  subst hes
  rw [List.length_map]
  refine run_convert_bytes_arg w src e hs he b o ns.length c ns rfl (fun i hi=>?_) dst hd
  have h1:(ns.map (PD.int .u8))[i]? =some (.int .u8 ns[i]):=by simp [hi]
  have hz:sz=1:=by rw [<-hsz _ (List.mem_of_getElem? h1)];rfl
  subst hz
  have h2:=h.imm _ _ (hS i _ 0 _ h1 rfl)
  have h3:=(hV i _ 0 _ h1 rfl)
  rw [Nat.mul_one,Nat.add_zero]at h2
  rw [h2]
  generalize f i 0=u at h3
  cases h3
  simp [List.getD,hi]
theorem conv_row(h:Sim P X S loc s a.tmps w){src dst e e':TypeId}{i ver:Nat}{ns:List Int}{vx:Value}(hs:P.underlying src=some (.slice e))(he:P.underlying e=some (.int .u8))(hd:P.underlying dst=some .string)
  (hb:s.boxes i=some (.arr ver e' (ns.map (.int .u8)))) (hx:R S loc (.ref i ver) vx):
  (convert src dst vx).run P w= .ok (.string ⟨(vH ns).toArray⟩) w:=by
 obtain⟨sz,xs,hloc,hsz,how,hf⟩:=h.tW hb hx
 by_cases hns:ns=[]
 ·subst hns
  obtain⟨a',c,rfl,_⟩:=how.hdr
  rw [List.map_nil,List.length_nil,run_convert_bytes_string w src dst e a' 0 c hs he hd]
  cases a'<;>simp [Conv.bytesToString,loadCells,loadCellsFrom,vH,Sem.run_pure]<;>rfl
 ·have hpos:0<ns.length:=by cases ns with|nil=>exact(hns rfl).elim|cons=>simp
  have how:=how.xc (by simpa using hpos)
  obtain⟨g,c,rfl⟩:=ta how (by simpa using hpos)
  rw [List.length_map]
  refine run_convert_bytes_arg w src e hs he g 0 ns.length c ns rfl (fun j hj=>?_) dst hd
  have h1:(ns.map (PD.int .u8))[j]? =some (.int .u8 ns[j]):=by simp [hj]
  have hz:sz=1:=by rw [<-hf.len _ (List.mem_of_getElem? h1)];rfl
  subst hz
  obtain⟨u,h2,h3⟩:=hf.cell j _ 0 _ h1 rfl
  rw [Nat.mul_one,Nat.add_zero]at h2
  have h4:=how.cells (g:=g) rfl j u h2
  rw [rH]at h4
  rw [h4]
  cases h3
  simp [List.getD,hj]
theorem zZ(h:Sim P X S loc s a.tmps w){id:Nat}{src dst:TypeId}{x v:RV}{u:Ups}{r:List Nat}{vx:Value}(hl:tM P id src dst x s.boxes=some ((v,u),r,true))(hx:R S loc x vx):
  ∃v' w' loc',(convert src dst vx).run P w= .ok v' w'∧Sim P X S loc' (s.ups u) a.tmps w'∧R S loc' v v':=by
 rcases zY P id src dst x with⟨e,str,hs,hd,rfl⟩|⟨e,i,ver,hs,hd,rfl⟩|⟨e,es,hs,hd,rfl⟩|hc
 ·unfold tM at hl
  simp only [hs,hd]at hl
  by_cases he:P.underlying e=some (.int .u8)
  ·simp only [he]at hl
   obtain⟨_,r1,r2,h1,h2,_⟩:=M.bind_some hl
   obtain⟨hb,_,_⟩:=M.qo h1
   obtain⟨h3, -,hc⟩:=M.pN h2
   cases h3
   have e1:=hx.uM
   subst e1
   obtain⟨hz,hlen⟩:=of_decide_eq_true hc.symm
   have hsz:ByteArray.size ⟨str.toArray⟩=str.length:=by simp [ByteArray.size]
   have hge:=grownCap_ge w (ByteArray.size ⟨str.toArray⟩) 0 e
   have hcap:=grownCap_le_maxLen w (ByteArray.size ⟨str.toArray⟩) 0 e (by rw [hsz];simp only [maxLen];omega)
   have hrun:=Lib.run_convert_string_bytes (P:=P) w src dst e ⟨str.toArray⟩ hs hd he
   have hnew:=Lib.bytesWorld_at_new w e ⟨str.toArray⟩
   rw [hsz]at hge hcap hrun
   have hcs:(Lib.bytesCells w e ⟨str.toArray⟩).size=grownCap w str.length 0 e:=by
    simp only [Lib.bytesCells,Array.size_append,Array.size_map,Array.size_replicate,hsz]
    simp;omega
   obtain⟨loc',h1,h2,_⟩:=h.vn (P:=P) (w':=Lib.bytesWorld w e ⟨str.toArray⟩) (es:=str.map fun b=>.int .u8 b.toNat) (xs:=str.map fun b=>.int .u8 b.toNat) hb (AP w e _) hz
    (hdr:= .slice (some ⟨w.heap.size,0,none⟩) str.length (grownCap w str.length 0 e))
    (.inl ⟨sm, .inr ⟨w.heap.size, _, _, _, sm, .inr ⟨hcs, rfl⟩, hnew, by simpa using hge, hcap, by simpa using hcs, by
     simp only [Lib.bytesCells,List.length_map,Nat.mul_one,Array.toList_append,Array.toList_map]
     exact List.take_left' sm⟩⟩)
    ⟨by simp [PD.cells], by simp; intro a _; rfl, fun i y j x hi hj => by
     rw [List.getElem?_map,Option.map_eq_some_iff]at hi
     obtain⟨b,hb,rfl⟩:=hi
     cases j with
     |succ j=>simp [PD.cells]at hj
     |zero=>
      simp only [PD.cells,List.getElem?_cons_zero,Option.some.injEq]at hj
      subst hj
      exact⟨_,by rw [Nat.mul_one,Nat.add_zero,List.getElem?_map,hb];rfl,.int _ _⟩⟩
    (fun g hg => by
     unfold rk at hg
     split at hg
     ·rename_i h1
      simp only [Value.slice.injEq,Option.some.injEq]at h1
      obtain⟨h1, -⟩:=h1
      subst h1
      cases hg
      exact Nat.le_refl _
     ·cases hg) rfl
   exact⟨_,_,loc',hrun,h1,h2⟩
  ·rcases hq:P.underlying e with _|q
   ·simp only [hq]at hl;exact fE s.boxes hl
   ·cases q<;>first|(simp only [hq]at hl;exact fE s.boxes hl)|skip
    rename_i k
    cases k<;>first|exact(he hq).elim|(simp only [hq]at hl;exact fE s.boxes hl)
 ·unfold tM at hl
  simp only [hs,hd]at hl
  by_cases he:P.underlying e=some (.int .u8)
  ·simp only [he]at hl
   obtain⟨bx,r1,r2,h1,h2,_⟩:=M.bind_some hl
   obtain⟨hb,_,_⟩:=M.get_some h1
   cases bx<;>first|exact fE s.boxes h2|skip
   rename_i ver' e' es
   by_cases hv:ver=ver'
   rotate_left
   ·simp only [hv,if_false]at h2;exact fE s.boxes h2
   subst hv
   simp only [if_true]at h2
   rcases hn:u8s es with _|ns
   ·simp only [hn]at h2;exact fE s.boxes h2
   simp only [hn]at h2
   obtain⟨h3, -, -⟩:=pQ h2
   cases h3
   obtain rfl:=yF hn
   exact⟨_,w,loc,conv_row h hs he hd hb hx,h,.d (.str _)⟩
  ·rcases hq:P.underlying e with _|q
   ·simp only [hq]at hl;exact fE s.boxes hl
   ·cases q<;>first|(simp only [hq]at hl;exact fE s.boxes hl)|skip
    rename_i k
    cases k<;>first|exact(he hq).elim|(simp only [hq]at hl;exact fE s.boxes hl)
 ·unfold tM at hl
  simp only [hs,hd]at hl
  by_cases he:P.underlying e=some (.int .u8)
  ·simp only [he]at hl
   rcases hn:u8s es with _|ns
   ·simp only [hn]at hl;exact fE s.boxes hl
   simp only [hn]at hl
   obtain⟨h3, -, -⟩:=pQ hl
   cases h3
   obtain rfl:=yF hn
   cases hx with
   |d hv=>exact⟨_,w,loc,AS h hs he hd hv,h,.d (.str _)⟩
  ·rcases hq:P.underlying e with _|q
   ·simp only [hq]at hl;exact fE s.boxes hl
   ·cases q<;>first|(simp only [hq]at hl;exact fE s.boxes hl)|skip
    rename_i k
    cases k<;>first|exact(he hq).elim|(simp only [hq]at hl;exact fE s.boxes hl)
 ·rw [hc]at hl
  obtain⟨p,h3,h4, -⟩:=uI hl
  cases h4
  obtain⟨v',h5,h6⟩:=z6 (P:=P) (w:=w) h3 hx
  exact⟨v',w,loc,h5,h,.d h6⟩
theorem AX{mt:Hf}{call:pT}(hcall:rQ P X.base call){o:Oper}(hS:tV P X s a w)(hdst:∀d,o.dst=some d->d<X.nt){v:RV}{u:Ups}{r:List Nat}
  (hl:pX P mt call s o s.boxes=some ((v,u),r,true)):ue P X ((s.ups u).put o.dst v) o a w:=by
 obtain⟨hd,S,loc,h⟩:=hS
 have pure_:∀{v':Value},(execOp a.eval o).run P w= .ok (.value v') w->R S loc v v'->u=[]->ue P X ((s.ups u).put o.dst v) o a w:=by
  intro v' hrun hr hu
  subst hu
  exact ue.value hd hdst hrun h hr
 have val:∀{m:Sem Value}{v':Value}{w':World}{S':pR}{loc':qe},(execOp a.eval o)=(do pure (.value (<-m)))->m.run P w= .ok v' w'->Sim P X S' loc' (s.ups u) a.tmps w'->R S' loc' v v'->ue P X ((s.ups u).put o.dst v) o a w:=by
  intro m v' w' S' loc' he hm hs hr
  refine ue.value hd hdst (v':=v') (w':=w') ?_ hs hr
  rw [he]
  simp [hm]
 unfold pX at hl
 rcases hop:o.op with x|x|⟨c,x,y⟩|t|⟨t,x⟩|⟨t,parts⟩|⟨t,len,parts⟩|⟨t,m,k,x⟩|⟨t,x⟩|⟨t,x,y⟩|g|g|x|⟨op,t,x,y,t2⟩|⟨op,t,x⟩|⟨t,t2,x⟩|⟨t,x⟩|⟨t,x⟩|⟨fn,x,y⟩|⟨t,x⟩|⟨t,x⟩|⟨t,x,y⟩|⟨t,x,lo,hi,mx⟩|⟨t,x,f⟩|⟨t,x,f⟩|⟨t,x,y⟩|⟨t,x,y⟩|⟨t,x,y,c⟩|⟨t,x,y,c⟩|⟨t,x,y⟩|⟨t,x,y,c⟩|⟨t,x⟩|⟨x,b⟩|x|⟨x,t,t2,b⟩|⟨x,i⟩|c|c|c|x|⟨x,y⟩|⟨t,x,b⟩|⟨cs,b⟩
 all_goals (simp only [hop]at hl)
 all_goals first|exact fE s.boxes hl|skip
 ·rcases h1:s.opd x with _|v1
  ·simp only [h1]at hl;exact fE s.boxes hl
  simp only [h1]at hl
  obtain⟨h2, -, -⟩:=pQ hl
  cases h2
  exact pure_ (by simp [execOp,hop]) (h.opd h1) rfl
 ·rcases h1:s.opd x with _|v1
  ·simp only [h1]at hl;exact fE s.boxes hl
  simp only [h1]at hl
  obtain⟨h2, -, -⟩:=pQ hl
  cases h2
  exact pure_ (by simp [execOp,hop]) (h.opd h1) rfl
 ·rcases h1:s.opd c with _|v1
  ·simp only [h1]at hl;exact fE s.boxes hl
  rw [h1]at hl
  rcases v1 with p|_|_|_|_|_|_|_|_|_|_|_|_<;>first|exact fE s.boxes hl|skip
  cases p<;>first|exact fE s.boxes hl|skip
  rename_i b
  have hb:=(h.opd h1).sW
  cases b
  ·rcases h2:s.opd y with _|v2
   ·simp only [h2,Bool.false_eq_true,if_false]at hl;exact fE s.boxes hl
   simp only [h2,Bool.false_eq_true,if_false]at hl
   obtain⟨h3, -, -⟩:=pQ hl
   cases h3
   exact pure_ (by simp [execOp,hop,hb,asBool]) (h.opd h2) rfl
  ·rcases h2:s.opd x with _|v2
   ·simp only [h2,if_true]at hl;exact fE s.boxes hl
   simp only [h2,if_true]at hl
   obtain⟨h3, -, -⟩:=pQ hl
   cases h3
   exact pure_ (by simp [execOp,hop,hb,asBool]) (h.opd h2) rfl
 ·obtain⟨v',w',loc',h1,h2,h3⟩:=zi h hl
  exact val (by simp only [execOp,hop]) h1 h2 h3
 ·rcases h1:s.opd x with _|v1
  ·simp only [h1]at hl;exact fE s.boxes hl
  simp only [h1]at hl
  obtain⟨v',w',loc',h1,h2,h3⟩:=AN (t:=t) h hl (h.opd h1)
  exact val (by simp only [execOp,hop]) h1 h2 h3
 ·rcases h1:qZ s parts.toList with _|l
  ·simp only [h1]at hl;exact fE s.boxes hl
  simp only [h1]at hl
  have hp:=uc h h1
  obtain⟨v',h2,h3,rfl⟩:=zl (P:=P) (w:=w) (pvs:=parts.map fun(i,x)=>(i,a.eval x)) hl (by simpa using hp)
  exact val (S':=S) (loc':=loc) (by simp only [execOp,hop]) h2 h h3
 ·rcases h1:qZ s parts.toList with _|l
  ·simp only [h1]at hl;exact fE s.boxes hl
  simp only [h1]at hl
  have hp:=uc h h1
  obtain⟨v',w',S',loc',h2,h3,h4⟩:=wo (pvs:=parts.map fun(i,x)=>(i,a.eval x)) h hl (by simpa using hp)
  exact val (by simp only [execOp,hop]) h2 h3 h4
 ·rcases h1:s.opd x with _|v1
  ·simp only [h1]at hl;exact fE s.boxes hl
  simp only [h1]at hl
  obtain⟨v',h2,h3,rfl⟩:=ve h hl (h.opd h1)
  exact val (S':=S) (loc':=loc) (by simp only [execOp,hop]) h2 h h3
 ·rcases h1:s.opd x with _|v1
  ·simp only [h1]at hl;exact fE s.boxes hl
  rcases h2:s.opd y with _|v2
  ·simp only [h1,h2]at hl;exact fE s.boxes hl
  simp only [h1,h2]at hl
  obtain⟨w',S',loc',h3,h4,rfl⟩:=zJ h hl (h.opd h1) (h.opd h2)
  exact ue.skip hd hdst (w':=w') (by simp [execOp,hop,h3]) h4
 ·rcases h1:s.opd x with _|v1
  ·simp only [h1]at hl;exact fE s.boxes hl
  simp only [h1]at hl
  obtain⟨ad,he,h2,rfl,_⟩:=vj h hl (h.opd h1)
  refine pure_ (v':= .pointer (some ad)) (by simp [execOp,hop,he]) ?_ rfl
  rwa [Addr.add_zero']at h2
 ·rcases h1:s.opd x with _|v1
  ·simp only [h1]at hl;exact fE s.boxes hl
  rcases h2:s.opd y with _|v2
  ·simp only [h1,h2]at hl;exact fE s.boxes hl
  simp only [h1,h2]at hl
  obtain⟨p,h3,h4, -⟩:=uI hl
  cases h4
  obtain⟨v',h5,h6⟩:=AM (P:=P) (w:=w) t x y h3 (h.opd h1) (h.opd h2)
  exact val (S':=S) (loc':=loc) (by simp only [execOp,hop]) h5 h (.d h6)
 ·cases op with
  |not=>
   rcases h1:s.opd x with _|v1
   ·simp only [h1]at hl;exact fE s.boxes hl
   simp only [h1]at hl
   obtain⟨p,h3,h4, -⟩:=uI hl
   cases h4
   rcases v1 with p'|_|_|_|_|_|_|_|_|_|_|_|_<;>first|(simp [notD]at h3;done)|skip
   cases p'<;>first|(simp [notD]at h3;done)|skip
   simp only [notD,Option.some.injEq,Prod.mk.injEq,and_true]at h3
   subst h3
   have hb:=(h.opd h1).sW
   exact val (S':=S) (loc':=loc) (m:=Op.unary .not (a.eval x)) (by simp only [execOp,hop]) (by rw [hb];rfl) h (.d (.bool _))
  |neg=>
   rcases h1:s.opd x with _|v1
   ·simp only [h1]at hl;exact fE s.boxes hl
   simp only [h1]at hl
   obtain⟨p,h3,h4, -⟩:=uI hl
   cases h4
   rcases v1 with p'|_|_|_|_|_|_|_|_|_|_|_|_<;>first|(simp [negD]at h3;done)|skip
   cases p'<;>first|(simp [negD]at h3;done)|skip
   simp only [negD,Option.some.injEq,Prod.mk.injEq,and_true]at h3
   subst h3
   have hb:=(h.opd h1).p9
   exact val (S':=S) (loc':=loc) (m:=Op.unary .neg (a.eval x)) (by simp only [execOp,hop]) (by rw [hb];rfl) h (.d (.int _ _))
  |xor=>exact fE s.boxes hl
  |plus=>exact fE s.boxes hl
 ·rcases h1:s.opd x with _|v1
  ·simp only [h1]at hl;exact fE s.boxes hl
  simp only [h1]at hl
  obtain⟨v',w',loc',h5,h6,h7⟩:=zZ h hl (h.opd h1)
  exact val (S':=S) (loc':=loc') (by simp only [execOp,hop]) h5 h6 h7
 ·rcases h1:s.opd x with _|v1
  ·simp only [h1]at hl;exact fE s.boxes hl
  simp only [h1]at hl
  obtain⟨v',h3,h4,rfl⟩:=A1 (w:=w) hl (h.opd h1)
  exact val (S':=S) (loc':=loc) (by simp only [execOp,hop]) h3 h h4
 ·rcases h2:rV s y.toList with _|l
  ·simp only [h2]at hl;exact fE s.boxes hl
  simp only [h2]at hl
  obtain⟨fl⟩:=x
  cases fn<;>first|exact fE s.boxes hl|skip
  rename_i g
  obtain⟨g1,g2⟩:=xb h h2
  rcases fl with _|⟨x0,_|⟨x1,fl⟩⟩<;>first|exact fE s.boxes hl|skip
  rotate_left
  ·simp only at hl
   rcases h3:s.opd x0 with _|rv
   ·simp only [h3]at hl;exact fE s.boxes hl
   rw [h3]at hl
   rcases rv with p|_|_|_|_|_|_|_|_|_|_|_|_<;>first|exact fE s.boxes hl|skip
   cases p<;>first|exact fE s.boxes hl|skip
   rename_i cs
   cases cs<;>first|exact fE s.boxes hl|skip
   cases l<;>first|exact fE s.boxes hl|skip
   obtain⟨h4, -, -⟩:=pQ hl
   cases h4
   have hx0:a.eval x0= .agg #[]:=by
    have:=h.opd h3
    generalize a.eval x0=q at this
    cases this with
    |d hh=>cases hh with
     |agg _ vs hvs _=>
      have hz:vs= #[]:=Array.eq_empty_of_size_eq_zero (by simpa using hvs)
      rw [hz]
   have hy:y= #[]:=Array.eq_empty_of_size_eq_zero (by simpa using g1.symm)
   subst hy
   refine val (S':=S) (loc':=loc) (v':= .func (.func g) #[.agg #[]] #[]) (w':=w) (m:=Instr.makeFunc (.func g) #[.agg #[]] #[]) (by simp [execOp,hop,hx0]) rfl h (.d (.raw _ rfl))
  obtain⟨h3, -, -⟩:=pQ hl
  cases h3
  refine val (S':=S) (loc':=loc) (v':= .func (.func g) #[] (y.map a.eval)) (w':=w) (m:=Instr.makeFunc (.func g) #[] (y.map a.eval)) (by simp only [execOp,hop,List.map_toArray,List.map_nil]) rfl h ?_
  exact .clo g l _ (by simpa using g1.symm) (fun i c u hc hu=>g2 i c u hc (by simpa using hu))
 ·rcases h1:qk s x with _|v1
  ·simp only [h1]at hl;exact fE s.boxes hl
  rw [h1]at hl
  cases v1 with
  |some _=>exact fE s.boxes hl
  |none=>
   simp only at hl
   have hx:x=none:=by
    cases x with
    |none=>rfl
    |some y=>simp only [qk]at h1;split at h1<;>cases h1
   subst hx
   obtain⟨v',w',loc',h2,h3,h4⟩:=yn h hl
   exact val (by simp only [execOp,hop,Option.map_none]) h2 h3 h4
 ·rcases h1:s.opd x with _|v1
  ·simp only [h1]at hl;exact fE s.boxes hl
  rcases h2:s.opd y with _|v2
  ·simp only [h1,h2]at hl;exact fE s.boxes hl
  simp only [h1,h2]at hl
  obtain⟨v',w',loc',h3,h4,h5⟩:=w8 h hl (h.opd h1) (h.opd h2)
  exact val (by simp only [execOp,hop]) h3 h4 h5
 ·rcases h1:s.opd x with _|v1
  ·simp only [h1]at hl;exact fE s.boxes hl
  rcases h2:qk s lo with _|v2
  ·simp only [h1,h2]at hl;exact fE s.boxes hl
  rcases h3:qk s hi with _|v3
  ·simp only [h1,h2,h3]at hl;exact fE s.boxes hl
  rcases h4:qk s mx with _|v4
  ·simp only [h1,h2,h3,h4]at hl;exact fE s.boxes hl
  simp only [h1,h2,h3,h4]at hl
  split at hl
  ·obtain⟨v',S',loc',h5,h6,h7⟩:=Au h hl (h.opd h1) (rR h h2) (rR h h3) (rR h h4)
   exact val (S':=S') (loc':=loc') (by simp only [execOp,hop]) h5 h6 h7
  ·obtain⟨v',S',loc',h5,h6,h7⟩:=zF h hl (h.opd h1) (rR h h2) (rR h h3) (rR h h4)
   exact val (S':=S') (loc':=loc') (by simp only [execOp,hop]) h5 h6 h7
 ·rcases h1:s.opd x with _|v1
  ·simp only [h1]at hl;exact fE s.boxes hl
  simp only [h1]at hl
  obtain⟨v',h2,h3,rfl⟩:=wW h hl (h.opd h1)
  exact val (S':=S) (loc':=loc) (by simp only [execOp,hop]) h2 h h3
 ·rcases h1:s.opd x with _|v1
  ·simp only [h1]at hl;exact fE s.boxes hl
  simp only [h1]at hl
  obtain⟨v',h2,h3,rfl⟩:=zo (P:=P) (w:=w) hl (h.opd h1)
  exact val (S':=S) (loc':=loc) (by simp only [execOp,hop]) h2 h h3
 ·rcases h1:s.opd x with _|v1
  ·simp only [h1]at hl;exact fE s.boxes hl
  rcases h2:s.opd y with _|v2
  ·simp only [h1,h2]at hl;exact fE s.boxes hl
  simp only [h1,h2]at hl
  obtain⟨v',h3,h4,rfl⟩:=w5 h hl (h.opd h1) (h.opd h2)
  exact val (S':=S) (loc':=loc) (by simp only [execOp,hop]) h3 h h4
 ·rcases h1:s.opd x with _|v1
  ·simp only [h1]at hl;exact fE s.boxes hl
  rcases h2:s.opd y with _|v2
  ·simp only [h1,h2]at hl;exact fE s.boxes hl
  simp only [h1,h2]at hl
  obtain⟨v',h3,h4,rfl⟩:=zt (P:=P) (w:=w) hl (h.opd h1) (h.opd h2)
  exact val (S':=S) (loc':=loc) (by simp only [execOp,hop]) h3 h h4
 ·rcases h1:s.opd x with _|v1
  ·simp only [h1]at hl;exact fE s.boxes hl
  rcases h2:s.opd y with _|v2
  ·simp only [h1,h2]at hl;exact fE s.boxes hl
  simp only [h1,h2]at hl
  obtain⟨v',h3,h4,rfl⟩:=yL h hl (h.opd h1) (h.opd h2)
  exact val (S':=S) (loc':=loc) (by simp only [execOp,hop]) h3 h h4
 ·rcases h1:s.opd x with _|v1
  ·simp only [h1]at hl;exact fE s.boxes hl
  rcases h2:s.opd y with _|v2
  ·simp only [h1,h2]at hl;exact fE s.boxes hl
  rcases h3:s.opd c with _|v3
  ·simp only [h1,h2,h3]at hl;exact fE s.boxes hl
  simp only [h1,h2,h3]at hl
  obtain⟨w',S',loc',h4,h5,rfl⟩:=yM h hl (h.opd h1) (h.opd h2) (h.opd h3)
  exact ue.skip hd hdst (w':=w') (by simp [execOp,hop,h4]) h5
 ·rcases h1:s.opd x with _|v1
  ·simp only [h1]at hl;exact fE s.boxes hl
  simp only [h1]at hl
  obtain⟨v',h3,h4,rfl⟩:=yJ (w:=w) (xt:=t) hl (h.opd h1)
  exact val (S':=S) (loc':=loc) (by simp only [execOp,hop]) h3 h h4
 ·rcases h1:s.opd x with _|v1
  ·simp only [h1]at hl;exact fE s.boxes hl
  rw [h1]at hl
  rcases v1 with p|_|_|_|_|vs|_|_|_|_|_|_|_<;>first|exact fE s.boxes hl|skip
  rcases h2:vs[i]? with _|v2
  ·simp only [h2]at hl;exact fE s.boxes hl
  simp only [h2]at hl
  obtain⟨h3, -, -⟩:=pQ hl
  cases h3
  have hr:=h.opd h1
  generalize hx:a.eval x=vx at hr
  cases hr with
  |tup _ ws hlen hc=>
   have hlt:i<ws.size:=by rw [hlen];exact(List.getElem?_eq_some_iff.1 h2).1
   have hw:=Array.getElem?_eq_getElem hlt
   refine val (S':=S) (loc':=loc) (v':=ws[i]) (w':=w) (m:=Instr.extract (.tuple ws) i) (by simp only [execOp,hop,hx]) ?_ h (hc i v _ h2 hw)
   simp [Instr.extract,hw]
 ·obtain⟨callee,args,argTypes⟩:=c
  simp only at hl
  rcases h2:rV s args.toList with _|l
  ·rw [h2]at hl;cases callee with
   |value f=>exact fE s.boxes hl
   |invoke r m=>exact fE s.boxes hl
   |builtin b=>cases b<;>exact fE s.boxes hl
  rw [h2]at hl
  obtain⟨g1,g2⟩:=xb h h2
  cases callee with
  |invoke rc m=>
   rcases h3:s.opd rc with _|v1
   ·simp only [h3]at hl;exact fE s.boxes hl
   simp only [h3]at hl
   have hr:=h.opd h3
   obtain⟨t,c,f,rfl,hcase⟩:=zw hl
   generalize hre:a.eval rc=vrc at hr
   cases hr with
   |ifc _ _ vc hc=>
    have g1':l.length=args.size:=by simpa using g1
    have hargs:∀(v0:RV)(w0:Value),R S loc v0 w0->∀(i:Nat)x y,(v0::l)[i]? =some x->(#[w0]++args.map a.eval)[i]? =some y->R S loc x y:=fun v0 w0 h0 i x y hx hy=>by
     cases i with
     |zero=>
      simp only [List.getElem?_cons_zero,Option.some.injEq]at hx
      rw [Array.getElem?_append_left sm]at hy
      simp at hy
      subst hx hy
      exact h0
     |succ i=>
      rw [List.getElem?_cons_succ]at hx
      rw [Array.getElem?_append_right sm]at hy
      exact g2 i x y hx (by simpa using hy)
    have e1:(#[Value.iface t vc]++Array.map a.eval args)[0]? =some (.iface t vc):=by rw [Array.getElem?_append_left sm];rfl
    have e2:(Array.map a.eval args).extract 0 args.size=Array.map a.eval args:=by
     apply Array.ext'
     simp only [Array.toList_extract,Array.toList_map,List.extract_eq_take_drop,List.drop_zero,Nat.sub_zero]
     exact List.take_of_length_le sm
    rcases hcase with⟨hm,hl'⟩|⟨e,v0,u0,r1,r2,hm,hld,hl'⟩
    ·refine sX hcall h hd hdst hl' (vs:= #[vc]++args.map a.eval) (by simp [g1'];omega) (hargs c vc hc) ?_
     rw [<-uZ hm (v':=vc) rfl (args.map a.eval)]
     simp [execOp,hop,resolve,hre,invoke,e1,e2]
    ·obtain⟨v1,hrun,hr1, -⟩:=ve h hld hc
     refine sX hcall h hd hdst hl' (vs:= #[v1]++args.map a.eval) (by simp [g1'];omega) (hargs v0 v1 hr1) ?_
     rw [<-uZ hm (v':=v1) hrun (args.map a.eval)]
     simp [execOp,hop,resolve,hre,invoke,e1,e2]
  |value f=>
   rcases h3:s.opd f with _|v1
   ·simp only [h3]at hl;exact fE s.boxes hl
   simp only [h3]at hl
   rcases v1 with p|_|_|_|_|_|_|_|_|_|_|⟨g,cs⟩|_<;>first|exact fE s.boxes hl|skip
   rotate_left
   ·have hr:=h.opd h3
    generalize hfe:a.eval f=vf at hr
    cases hr with
    |clo _ _ caps hcl hcc=>
     have g1':l.length=args.size:=by simpa using g1
     refine sX hcall h hd hdst hl (vs:=args.map a.eval++caps) (by simp [g1',hcl]) (fun i x y hx hy=>?_) ?_
     ·by_cases hi:i<l.length
      ·rw [List.getElem?_append_left hi]at hx
       rw [Array.getElem?_append_left so]at hy
       exact g2 i x y hx (by simpa using hy)
      ·rw [List.getElem?_append_right za]at hx
       rw [Array.getElem?_append_right so]at hy
       have e:(args.map a.eval).size=l.length:=by simp [g1']
       rw [e]at hy
       exact hcc _ x y hx hy
     ·simp only [execOp,hop,resolve,hfe,Sem.run_bind,Deferred.ofValue,Sem.run_pure,Result.andThen_ok,invoke]
      simp
   cases p<;>first|exact fE s.boxes hl|skip
   rename_i fv
   have hf:=(h.opd h3).raw_inv
   cases fv<;>first|exact fE s.boxes hl|skip
   rename_i fn first captured
   cases fn<;>first|exact fE s.boxes hl|skip
   rename_i g
   obtain⟨fl⟩:=first
   obtain⟨cl⟩:=captured
   rcases fl with _|⟨f0,_|⟨f1,fl⟩⟩
   rotate_left
   ·cases f0<;>first|exact fE s.boxes hl|skip
    rename_i fa
    obtain⟨fa⟩:=fa
    cases fa<;>first|exact fE s.boxes hl|skip
    cases cl<;>first|exact fE s.boxes hl|skip
    have g1':l.length=args.size:=by simpa using g1
    refine sX hcall h hd hdst hl (vs:= #[.agg #[]]++args.map a.eval) (by simp [g1'];omega) (fun i x y hx hy=>?_) ?_
    ·cases i with
     |zero=>
      simp only [List.getElem?_cons_zero,Option.some.injEq]at hx
      rw [Array.getElem?_append_left sm]at hy
      simp at hy
      subst hx hy
      exact .d (.agg [] #[] rfl (fun i p v hp=>by simp at hp))
     |succ i=>
      rw [List.getElem?_cons_succ]at hx
      rw [Array.getElem?_append_right sm]at hy
      exact g2 i x y hx (by simpa using hy)
    ·simp only [execOp,hop,resolve,hf,Sem.run_bind,Deferred.ofValue,Sem.run_pure,Result.andThen_ok,invoke]
     simp
   ·cases f0<;>first|exact fE s.boxes hl|skip
    all_goals (try(exact fE s.boxes hl))
    all_goals (rename_i fa;obtain⟨fa⟩:=fa;cases fa<;>exact fE s.boxes hl)
   cases cl<;>first|exact fE s.boxes hl|skip
   refine sX hcall h hd hdst hl (vs:=args.map a.eval) (by simpa using g1) (fun i x y hx hy=>g2 i x y hx (by simpa using hy)) ?_
   simp only [execOp,hop,resolve,hf,Sem.run_bind,Deferred.ofValue,Sem.run_pure,Result.andThen_ok,invoke]
   simp
  |builtin b=>
   cases b<;>first|exact fE s.boxes hl|skip
   case append=>
    rcases l with _|⟨x,_|⟨y,_|⟨z,l⟩⟩⟩<;>first|exact fE s.boxes hl|skip
    by_cases hsz:argTypes.size=2
    rotate_left
    ·simp only [hsz,if_false]at hl;exact fE s.boxes hl
    simp only [hsz,if_true]at hl
    obtain⟨x',y',hargs⟩:∃x' y',args.toList=[x',y']:=by
     rcases hq:args.toList with _|⟨p,_|⟨q,_|⟨z,l⟩⟩⟩<;>simp [hq]at g1
     exact⟨p,q,rfl⟩
    have hargs2:args= #[x',y']:=by apply Array.ext';exact hargs
    subst hargs2
    obtain⟨t1,t2,htt⟩:∃t1 t2,argTypes= #[t1,t2]:=by
     obtain⟨l⟩:=argTypes
     rcases l with _|⟨p,_|⟨q,_|⟨z,l⟩⟩⟩<;>simp at hsz
     exact⟨p,q,rfl⟩
    subst htt
    have hx:=g2 0 x (a.eval x') rfl rfl
    have hy:=g2 1 y (a.eval y') rfl rfl
    by_cases htt0:t1=t2
    rotate_left
    ·have hl':vI P (o.dst.getD 0*16) t1 t2 x y s.boxes=some ((v,u),r,true):=by
      rw [if_neg (show ¬(#[t1,t2]:Array TypeId).getD 0 0=(#[t1,t2]:Array TypeId).getD 1 0 from htt0)]at hl
      exact hl
     obtain⟨v',w',loc',h3,h4,h5⟩:=zR (ty:=o.type) h hl' hx hy
     refine ue.value hd hdst (v':=v') (w':=w') ?_ h4 h5
     simp only [execOp,hop,resolve,Sem.run_bind,Sem.run_pure,Result.andThen_ok,invoke,builtin,List.map_toArray,List.map_cons,List.map_nil]
     have h3':(Builtin.append_ #[t1,t2] o.type #[a.eval x',a.eval y']).run P w= .ok v' w':=h3
     rw [h3']
     rfl
    rw [if_pos (show(#[t1,t2]:Array TypeId).getD 0 0=(#[t1,t2]:Array TypeId).getD 1 0 from htt0)]at hl
    replace hl:rz P (o.dst.getD 0*16) t1 t2 x y s.boxes=some ((v,u),r,true):=hl
    obtain⟨htt,v',w',S',loc',h3,h4,h5⟩:=yI (ty:=o.type) h hl hx hy
    subst htt
    refine ue.value hd hdst (v':=v') (w':=w') ?_ h4 h5
    simp only [execOp,hop,resolve,Sem.run_bind,Sem.run_pure,Result.andThen_ok,invoke,builtin,List.map_toArray,List.map_cons,List.map_nil]
    have h3':(Builtin.append_ #[t1,t1] o.type #[a.eval x',a.eval y']).run P w= .ok v' w':=h3
    rw [h3']
    rfl
   case copy=>
    rcases l with _|⟨x,_|⟨y,_|⟨z,l⟩⟩⟩<;>first|exact fE s.boxes hl|skip
    by_cases hsz:argTypes.size=2
    rotate_left
    ·simp only [hsz,if_false]at hl;exact fE s.boxes hl
    simp only [hsz,if_true]at hl
    obtain⟨x',y',hargs⟩:∃x' y',args.toList=[x',y']:=by
     rcases hq:args.toList with _|⟨p,_|⟨q,_|⟨z,l⟩⟩⟩<;>simp [hq]at g1
     exact⟨p,q,rfl⟩
    have hargs2:args= #[x',y']:=by apply Array.ext';exact hargs
    subst hargs2
    obtain⟨t1,t2,htt⟩:∃t1 t2,argTypes= #[t1,t2]:=by
     obtain⟨l⟩:=argTypes
     rcases l with _|⟨p,_|⟨q,_|⟨z,l⟩⟩⟩<;>simp at hsz
     exact⟨p,q,rfl⟩
    subst htt
    have hx:=g2 0 x (a.eval x') rfl rfl
    have hy:=g2 1 y (a.eval y') rfl rfl
    replace hl:vK P t1 x y s.boxes=some ((v,u),r,true):=hl
    obtain⟨v',w',S',loc',h3,h4,h5⟩:=z7 (t':=t2) (ty:=o.type) h hl hx hy
    refine ue.value hd hdst (v':=v') (w':=w') ?_ h4 h5
    simp only [execOp,hop,resolve,Sem.run_bind,Sem.run_pure,Result.andThen_ok,invoke,builtin,List.map_toArray,List.map_cons,List.map_nil]
    have h3':(Builtin.copy_ #[t1,t2] o.type #[a.eval x',a.eval y']).run P w= .ok v' w':=h3
    rw [h3']
    rfl
   case clear=>
    rcases l with _|⟨x,_|⟨y,l⟩⟩<;>first|exact fE s.boxes hl|skip
    obtain⟨x',hargs⟩:∃x',args.toList=[x']:=by
     rcases hq:args.toList with _|⟨p,_|⟨q,l⟩⟩<;>simp [hq]at g1
     exact⟨p,rfl⟩
    have hargs2:args= #[x']:=by apply Array.ext';exact hargs
    subst hargs2
    have hx:=g2 0 x (a.eval x') rfl rfl
    by_cases hsz:argTypes.size=1
    rotate_left
    ·simp only [hsz,if_false]at hl;exact fE s.boxes hl
    simp only [hsz,if_true]at hl
    obtain⟨t1,htt⟩:∃t1,argTypes= #[t1]:=by
     obtain⟨l⟩:=argTypes
     rcases l with _|⟨p,_|⟨q,l⟩⟩<;>simp at hsz
     exact⟨p,rfl⟩
    subst htt
    replace hl:tX P t1 x s.boxes=some ((v,u),r,true):=hl
    obtain⟨v',w',S',loc',h3,h4,h5⟩:=zm (ty:=o.type) h hl hx
    refine ue.value hd hdst (v':=v') (w':=w') ?_ h4 h5
    simp only [execOp,hop,resolve,Sem.run_bind,Sem.run_pure,Result.andThen_ok,invoke,builtin,List.map_toArray,List.map_cons,List.map_nil]
    have h3':(Builtin.clear_ #[t1] o.type #[a.eval x']).run P w= .ok v' w':=h3
    rw [h3']
    rfl
   case min=>
    obtain⟨v',h3,h4,rfl⟩:=A7 (P:=P) (w:=w) (ts:=argTypes) (ty:=o.type) (vs:=args.map a.eval) hl (by simpa using g1) (fun i x y hx hy=>g2 i x y hx (by simpa using hy))
    refine ue.value hd hdst (v':=v') (w':=w) ?_ h h4
    simp only [execOp,hop,resolve,Sem.run_bind,Sem.run_pure,Result.andThen_ok,invoke,builtin]
    rw [h3]
    rfl
   case max=>
    obtain⟨v',h3,h4,rfl⟩:=A6 (P:=P) (w:=w) (ts:=argTypes) (ty:=o.type) (vs:=args.map a.eval) hl (by simpa using g1) (fun i x y hx hy=>g2 i x y hx (by simpa using hy))
    refine ue.value hd hdst (v':=v') (w':=w) ?_ h h4
    simp only [execOp,hop,resolve,Sem.run_bind,Sem.run_pure,Result.andThen_ok,invoke,builtin]
    rw [h3]
    rfl
   case cap=>
    rcases l with _|⟨x,_|⟨y,l⟩⟩<;>first|exact fE s.boxes hl|skip
    obtain⟨x',hargs⟩:∃x',args.toList=[x']:=by
     rcases hq:args.toList with _|⟨p,_|⟨q,l⟩⟩<;>simp [hq]at g1
     exact⟨p,rfl⟩
    have hargs2:args= #[x']:=by apply Array.ext';exact hargs
    subst hargs2
    have hx:=g2 0 x (a.eval x') rfl rfl
    by_cases hsz:argTypes.size=1
    rotate_left
    ·simp only [hsz,if_false]at hl;exact fE s.boxes hl
    simp only [hsz,if_true]at hl
    obtain⟨t1,htt⟩:∃t1,argTypes= #[t1]:=by
     obtain⟨l⟩:=argTypes
     rcases l with _|⟨p,_|⟨q,l⟩⟩<;>simp at hsz
     exact⟨p,rfl⟩
    subst htt
    obtain⟨v',h3,h4,rfl⟩:=AQ (ty:=o.type) h hl hx
    refine ue.value hd hdst (v':=v') (w':=w) ?_ h h4
    simp only [execOp,hop,resolve,Sem.run_bind,Sem.run_pure,Result.andThen_ok,invoke,builtin,List.map_toArray,List.map_cons,List.map_nil]
    have h3':(Builtin.cap_ #[t1] o.type #[a.eval x']).run P w= .ok v' w:=h3
    rw [h3']
    rfl
   case len=>
    rcases l with _|⟨x,_|⟨y,l⟩⟩<;>first|exact fE s.boxes hl|skip
    obtain⟨x',hargs⟩:∃x',args.toList=[x']:=by
     rcases hq:args.toList with _|⟨p,_|⟨q,l⟩⟩<;>simp [hq]at g1
     exact⟨p,rfl⟩
    have hargs2:args= #[x']:=by apply Array.ext';exact hargs
    subst hargs2
    have hx:=g2 0 x (a.eval x') rfl rfl
    by_cases hsz:argTypes.size=1
    rotate_left
    ·simp only [hsz,if_false]at hl;exact fE s.boxes hl
    simp only [hsz,if_true]at hl
    obtain⟨t1,htt⟩:∃t1,argTypes= #[t1]:=by
     obtain⟨l⟩:=argTypes
     rcases l with _|⟨p,_|⟨q,l⟩⟩<;>simp at hsz
     exact⟨p,rfl⟩
    subst htt
    obtain⟨v',h3,h4,rfl⟩:=A4 (ty:=o.type) h hl hx
    refine ue.value hd hdst (v':=v') (w':=w) ?_ h h4
    simp only [execOp,hop,resolve,Sem.run_bind,Sem.run_pure,Result.andThen_ok,invoke,builtin,List.map_toArray,List.map_cons,List.map_nil]
    have h3':(Builtin.len_ #[t1] o.type #[a.eval x']).run P w= .ok v' w:=h3
    rw [h3']
    rfl
end
end Go.Dw
