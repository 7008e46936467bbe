
import Derived.Test.YtfmoipelhfkdkaaGreatDoorDwIfc
import Derived.Test.YtfmoipelhfkdkaaGreatDoorDwEq
import Derived.Lib.ConvBytes
import Derived.Laws.IdiomStrings
import Derived.Laws.BytesArg
set_option linter.unusedVariables false
set_option linter.unusedSimpArgs false
open Option.some renaming injEq->DJ
open List renaming getD->EI, getElem?_cons_succ->DZ, getElem?_cons_zero->D0, getElem?_map->EY, length_map->Ey, map_cons->FC, map_nil->FD, map_toArray->FE, mem_of_getElem?->D6
open Prod.mk renaming injEq->DL
open Go.Sem renaming run_bind->ET, run_pure->EV
open Nat renaming add_zero->EA, mul_one->FF
open Array renaming eq_empty_of_size_eq_zero->FG, ext'->FH, getElem?_append_left->FJ, getElem?_append_right->FK, map->FL, toList_map->FM
open Go.Result renaming andThen_ok->EH

namespace Go.Dw
section
variable {P:Program}{X:Ctx}{S:rP}{loc:ss}{s:St}{w:World}{a:Act}
theorem yZ(h:Sim P X S loc s a.tmps w):∀{xs:List Operand}{l:List RV},tK s xs=some l->l.length=xs.length∧∀(i:Nat)x v,l[i]? =some x->(xs.map a.eval)[i]? =some v->R S loc x v
 | [],l,hl=>by
  simp only [tK,DJ]at hl
  subst hl
  exact⟨rfl,fun i x v j=>by simp at j⟩
 |x::xs,l,hl=>by
  simp only [tK]at hl
  rcases h1:s.opd x with _|v
  ·simp [h1]at hl
  rcases g:tK s xs with _|r
  ·simp [h1,g]at hl
  simp only [h1,g,DJ]at hl
  subst hl
  obtain⟨g1,g2⟩:=yZ h g
  refine⟨by simp [g1],fun i y u f hu=>?_⟩
  cases i with
  |zero=>
   simp only [D0,DJ,FC]at f hu
   subst f;subst hu
   exact h.opd h1
  |succ i=>simp only [DZ,FC]at f hu;exact g2 i y u f hu
theorem v7(h:Sim P X S loc s a.tmps w):∀{xs:List (Nat×Operand)}{l:List (Nat×RV)},tB s xs=some l->BK S loc l (xs.map fun(i,x)=>(i,a.eval x))
 | [],l,hl=>by
  simp only [tB,DJ]at hl
  subst hl
  exact⟨rfl,fun i x v j=>by simp at j⟩
 |(k,x)::xs,l,hl=>by
  simp only [tB]at hl
  rcases h1:s.opd x with _|v
  ·simp [h1]at hl
  rcases g:tB s xs with _|r
  ·simp [h1,g]at hl
  simp only [h1,g,DJ]at hl
  subst hl
  obtain⟨g1,g2⟩:=v7 h g
  refine⟨by simpa using g1,fun i y u f hu=>?_⟩
  cases i with
  |zero=>
   simp only [D0,DJ,FC]at f hu
   subst f;subst hu
   exact⟨rfl,h.opd h1⟩
  |succ i=>simp only [DZ,FC]at f hu;exact g2 i y u f hu
theorem uz(h:Sim P X S loc s a.tmps w){x:Option Operand}{v:Option RV}(f:rV s x=some v):RO S loc v (x.map a.eval):=by
 cases x with
 |none=>simp only [rV,DJ]at f;subst f;exact .none
 |some x=>
  simp only [rV]at f
  rcases h1:s.opd x with _|r
  ·simp [h1]at f
  simp only [h1,DJ]at f
  subst f
  exact .some (h.opd h1)
theorem BX{src dst:TypeId}{x:RV}{p:PD}{v:Value}(h:convD P src dst x=some (p,true))(g:R S loc x v):∃v',(convert src dst v).run P w= .ok v' w∧V S p v':=by
 unfold convD at h
 rcases h1:P.underlying src with _|d1
 ·simp [h1]at h
 rcases f:P.underlying dst with _|d2
 ·cases d1<;>simp [h1,f]at h
 cases d1<;>cases d2<;>first|(simp [h1,f]at h;done)|skip
 all_goals (rcases x with j|_|_|_|_|_|_|_|_|_|_|_|_<;>first|(simp [h1,f]at h;done)|skip)
 all_goals (cases j<;>first|(simp [h1,f]at h;done)|skip)
 ·simp only [h1,f,DJ,DL,and_true]at h
  subst h
  have:=g.sk
  subst this
  exact⟨_,by simp [convert,run_underlying h1,run_underlying f,Conv.intToInt],.int _ _⟩
 ·simp only [h1,f,DJ,DL,and_true]at h
  subst h
  have:=g.wU
  subst this
  exact⟨_,by simp [convert,run_underlying h1,run_underlying f],.str _⟩
theorem CA(w:World)(e:TypeId)(b:ByteArray):Step none w (Lib.bytesWorld w e b):=
 ⟨rfl,rfl,rfl,by rw [Lib.bytesWorld_size];omega,fun j f _=>Lib.bytesWorld_at_old w e b j f,Nat.le_succ _⟩
theorem BV(P:Program)(id:Nat)(src dst:TypeId)(x:RV):(∃e str,P.underlying src=some .string∧P.underlying dst=some (.slice e)∧x= .d (.str str))∨(∃e i ver,P.underlying src=some (.slice e)∧P.underlying dst=some .string∧x= .ref i ver)∨(∃e es,P.underlying src=some (.slice e)∧P.underlying dst=some .string∧x= .d (.lst es))∨
  wX P id src dst x=wZ (convD P src dst x):=by
 unfold wX
 split
 ·exact .inl ⟨_,_,by assumption,by assumption,rfl⟩
 ·exact .inr (.inl ⟨_,_,_,by assumption,by assumption,rfl⟩)
 ·exact .inr (.inr (.inl ⟨_,_,by assumption,by assumption,rfl⟩))
 ·exact .inr (.inr (.inr rfl))
theorem CF(h:Sim P X S loc s a.tmps w){src dst e:TypeId}{ns:List Int}{D:Value}(hs:P.underlying src=some (.slice e))(he:P.underlying e=some (.int .u8))(r:P.underlying dst=some .string)(C:V S (.lst (ns.map (.int .u8))) D):
  (convert src dst D).run P w= .ok (.string ⟨(strU ns).toArray⟩) w:=by
 generalize g:ns.map (PD.int .u8)=es at C
 cases C with
 |nil a c=>
  obtain rfl:=List.map_eq_nil_iff.1 g
  rw [run_convert_bytes_string w src dst e a 0 c hs he r]
  cases a<;>simp [Conv.bytesToString,loadCells,loadCellsFrom,strU,EV]<;>rfl
 |lst _ b o c sz f hc j hS hV=>
  subst g
  rw [Ey]
  refine run_convert_bytes_arg w src e hs he b o ns.length c ns rfl (fun i hi=>?_) dst r
  have h1:(ns.map (PD.int .u8))[i]? =some (.int .u8 ns[i]):=by simp [hi]
  have E:sz=1:=by rw [<-j _ (D6 h1)];rfl
  subst E
  have k:=h.imm _ _ (hS i _ 0 _ h1 rfl)
  have q:=(hV i _ 0 _ h1 rfl)
  rw [FF,EA]at k
  rw [k]
  generalize f i 0=u at q
  cases q
  simp [EI,hi]
theorem conv_row(h:Sim P X S loc s a.tmps w){src dst e H:TypeId}{i ver:Nat}{ns:List Int}{G:Value}(hs:P.underlying src=some (.slice e))(he:P.underlying e=some (.int .u8))(D:P.underlying dst=some .string)
  (J:s.boxes i=some (.arr ver H (ns.map (.int .u8)))) (L:R S loc (.ref i ver) G):
  (convert src dst G).run P w= .ok (.string ⟨(strU ns).toArray⟩) w:=by
 obtain⟨sz,xs,F,K,how,hf⟩:=h.vX J L
 by_cases k:ns=[]
 ·subst k
  obtain⟨q,c,rfl,_⟩:=how.hdr
  rw [FD,List.length_nil,run_convert_bytes_string w src dst e q 0 c hs he D]
  cases q<;>simp [Conv.bytesToString,loadCells,loadCellsFrom,strU,EV]<;>rfl
 ·have f:0<ns.length:=by cases ns with|nil=>exact(k rfl).elim|cons=>simp
  have how:=how.v8 (by simpa using f)
  obtain⟨g,c,rfl⟩:=u7 how (by simpa using f)
  rw [Ey]
  refine run_convert_bytes_arg w src e hs he g 0 ns.length c ns rfl (fun j E=>?_) dst D
  have h1:(ns.map (PD.int .u8))[j]? =some (.int .u8 ns[j]):=by simp [E]
  have N:sz=1:=by rw [<-hf.len _ (D6 h1)];rfl
  subst N
  obtain⟨u,r,I⟩:=hf.cell j _ 0 _ h1 rfl
  rw [FF,EA]at r
  have C:=how.cells (g:=g) rfl j u r
  rw [th]at C
  rw [C]
  cases I
  simp [EI,E]
theorem BW(h:Sim P X S loc s a.tmps w){id:Nat}{src dst:TypeId}{x v:RV}{u:Ups}{r:List Nat}{Y:Value}(hl:wX P id src dst x s.boxes=some ((v,u),r,true))(U:R S loc x Y):
  ∃v' w' loc',(convert src dst Y).run P w= .ok v' w'∧Sim P X S loc' (s.ups u) a.tmps w'∧R S loc' v v':=by
 rcases BV P id src dst x with⟨e,str,hs,E,rfl⟩|⟨e,i,ver,hs,E,rfl⟩|⟨e,es,hs,E,rfl⟩|hc
 ·unfold wX at hl
  simp only [hs,E]at hl
  by_cases he:P.underlying e=some (.int .u8)
  ·simp only [he]at hl
   obtain⟨_,r1,r2,h1,C,_⟩:=M.bind_some hl
   obtain⟨J,_,_⟩:=M.sZ h1
   obtain⟨G, -,hc⟩:=M.rE C
   cases G
   have e1:=U.wU
   subst e1
   obtain⟨hz,hlen⟩:=of_decide_eq_true hc.symm
   have I:ByteArray.size ⟨str.toArray⟩=str.length:=by simp [ByteArray.size]
   have L:=grownCap_ge w (ByteArray.size ⟨str.toArray⟩) 0 e
   have D:=grownCap_le_maxLen w (ByteArray.size ⟨str.toArray⟩) 0 e (by rw [I];simp only [maxLen];omega)
   have F:=Lib.run_convert_string_bytes (P:=P) w src dst e ⟨str.toArray⟩ hs E he
   have N:=Lib.bytesWorld_at_new w e ⟨str.toArray⟩
   rw [I]at L D F
   have K:(Lib.bytesCells w e ⟨str.toArray⟩).size=grownCap w str.length 0 e:=by
    simp only [Lib.bytesCells,Array.size_append,Array.size_map,Array.size_replicate,I]
    simp;omega
   obtain⟨loc',h1,C,_⟩:=h.xr (P:=P) (w':=Lib.bytesWorld w e ⟨str.toArray⟩) (es:=str.map fun b=>.int .u8 b.toNat) (xs:=str.map fun b=>.int .u8 b.toNat) J (CA w e _) hz
    (hdr:= .slice (some ⟨w.heap.size,0,none⟩) str.length (grownCap w str.length 0 e))
    (.inl ⟨zc, .inr ⟨w.heap.size, _, _, _, zc, .inr ⟨K, rfl⟩, N, by simpa using L, D, by simpa using K, by
     simp only [Lib.bytesCells,Ey,FF,Array.toList_append,FM]
     exact List.take_left' zc⟩⟩)
    ⟨by simp [PD.cells], by simp; intro a _; rfl, fun i y j x hi W => by
     rw [EY,Option.map_eq_some_iff]at hi
     obtain⟨b,J,rfl⟩:=hi
     cases j with
     |succ j=>simp [PD.cells]at W
     |zero=>
      simp only [PD.cells,D0,DJ]at W
      subst W
      exact⟨_,by rw [FF,EA,EY,J];rfl,.int _ _⟩⟩
    (fun g Q => by
     unfold tp at Q
     split at Q
     ·rename_i h1
      simp only [Value.slice.injEq,DJ]at h1
      obtain⟨h1, -⟩:=h1
      subst h1
      cases Q
      exact Nat.le_refl _
     ·cases Q) rfl
   exact⟨_,_,loc',F,h1,C⟩
  ·rcases f:P.underlying e with _|q
   ·simp only [f]at hl;exact fE s.boxes hl
   ·cases q<;>first|(simp only [f]at hl;exact fE s.boxes hl)|skip
    rename_i k
    cases k<;>first|exact(he f).elim|(simp only [f]at hl;exact fE s.boxes hl)
 ·unfold wX at hl
  simp only [hs,E]at hl
  by_cases he:P.underlying e=some (.int .u8)
  ·simp only [he]at hl
   obtain⟨bx,r1,r2,h1,C,_⟩:=M.bind_some hl
   obtain⟨J,_,_⟩:=M.get_some h1
   cases bx<;>first|exact fE s.boxes C|skip
   rename_i O e' es
   by_cases T:ver=O
   rotate_left
   ·simp only [T,if_false]at C;exact fE s.boxes C
   subst T
   simp only [if_true]at C
   rcases H:u8s es with _|ns
   ·simp only [H]at C;exact fE s.boxes C
   simp only [H]at C
   obtain⟨G, -, -⟩:=rH C
   cases G
   obtain rfl:=AQ H
   exact⟨_,w,loc,conv_row h hs he E J U,h,.d (.str _)⟩
  ·rcases f:P.underlying e with _|q
   ·simp only [f]at hl;exact fE s.boxes hl
   ·cases q<;>first|(simp only [f]at hl;exact fE s.boxes hl)|skip
    rename_i k
    cases k<;>first|exact(he f).elim|(simp only [f]at hl;exact fE s.boxes hl)
 ·unfold wX at hl
  simp only [hs,E]at hl
  by_cases he:P.underlying e=some (.int .u8)
  ·simp only [he]at hl
   rcases H:u8s es with _|ns
   ·simp only [H]at hl;exact fE s.boxes hl
   simp only [H]at hl
   obtain⟨G, -, -⟩:=rH hl
   cases G
   obtain rfl:=AQ H
   cases U with
   |d T=>exact⟨_,w,loc,CF h hs he E T,h,.d (.str _)⟩
  ·rcases f:P.underlying e with _|q
   ·simp only [f]at hl;exact fE s.boxes hl
   ·cases q<;>first|(simp only [f]at hl;exact fE s.boxes hl)|skip
    rename_i k
    cases k<;>first|exact(he f).elim|(simp only [f]at hl;exact fE s.boxes hl)
 ·rw [hc]at hl
  obtain⟨p,G,h4, -⟩:=wO hl
  cases h4
  obtain⟨v',h5,h6⟩:=BX (P:=P) (w:=w) G U
  exact⟨v',w,loc,h5,h,.d h6⟩
theorem CK{mt:Hf}{call:rO}(O:uv P X.base call){o:Oper}(hS:vW P X s a w)(E:∀d,o.dst=some d->d<X.nt){v:RV}{u:Ups}{r:List Nat}
  (hl:rN P mt call s o s.boxes=some ((v,u),r,true)):wc P X ((s.ups u).put o.dst v) o a w:=by
 obtain⟨U,S,loc,h⟩:=hS
 have pure_:∀{v':Value},(execOp a.eval o).run P w= .ok (.value v') w->R S loc v v'->u=[]->wc P X ((s.ups u).put o.dst v) o a w:=by
  intro v' a6 Y hu
  subst hu
  exact wc.value U E a6 h Y
 have val:∀{m:Sem Value}{v':Value}{w':World}{S':rP}{loc':ss},(execOp a.eval o)=(do pure (.value (<-m)))->m.run P w= .ok v' w'->Sim P X S' loc' (s.ups u) a.tmps w'->R S' loc' v v'->wc P X ((s.ups u).put o.dst v) o a w:=by
  intro m v' w' S' loc' he hm hs Y
  refine wc.value U E (v':=v') (w':=w') ?_ hs Y
  rw [he]
  simp [hm]
 unfold rN at hl
 rcases j:o.op with x|x|⟨c,x,y⟩|t|⟨t,x⟩|⟨t,parts⟩|⟨t,len,parts⟩|⟨t,m,k,x⟩|⟨t,x⟩|⟨t,x,y⟩|g|g|x|⟨op,t,x,y,t2⟩|⟨op,t,x⟩|⟨t,t2,x⟩|⟨t,x⟩|⟨t,x⟩|⟨fn,x,y⟩|⟨t,x⟩|⟨t,x⟩|⟨t,x,y⟩|⟨t,x,lo,hi,mx⟩|⟨t,x,f⟩|⟨t,x,f⟩|⟨t,x,y⟩|⟨t,x,y⟩|⟨t,x,y,c⟩|⟨t,x,y,c⟩|⟨t,x,y⟩|⟨t,x,y,c⟩|⟨t,x⟩|⟨x,b⟩|x|⟨x,t,t2,b⟩|⟨x,i⟩|c|c|c|x|⟨x,y⟩|⟨t,x,b⟩|⟨cs,b⟩
 all_goals (simp only [j]at hl)
 all_goals first|exact fE s.boxes hl|skip
 ·rcases h1:s.opd x with _|v1
  ·simp only [h1]at hl;exact fE s.boxes hl
  simp only [h1]at hl
  obtain⟨D, -, -⟩:=rH hl
  cases D
  exact pure_ (by simp [execOp,j]) (h.opd h1) rfl
 ·rcases h1:s.opd x with _|v1
  ·simp only [h1]at hl;exact fE s.boxes hl
  simp only [h1]at hl
  obtain⟨D, -, -⟩:=rH hl
  cases D
  exact pure_ (by simp [execOp,j]) (h.opd h1) rfl
 ·rcases h1:s.opd c with _|v1
  ·simp only [h1]at hl;exact fE s.boxes hl
  rw [h1]at hl
  rcases v1 with p|_|_|_|_|_|_|_|_|_|_|_|_<;>first|exact fE s.boxes hl|skip
  cases p<;>first|exact fE s.boxes hl|skip
  rename_i b
  have hb:=(h.opd h1).uX
  cases b
  ·rcases D:s.opd y with _|v2
   ·simp only [D,Bool.false_eq_true,if_false]at hl;exact fE s.boxes hl
   simp only [D,Bool.false_eq_true,if_false]at hl
   obtain⟨C, -, -⟩:=rH hl
   cases C
   exact pure_ (by simp [execOp,j,hb,asBool]) (h.opd D) rfl
  ·rcases D:s.opd x with _|v2
   ·simp only [D,if_true]at hl;exact fE s.boxes hl
   simp only [D,if_true]at hl
   obtain⟨C, -, -⟩:=rH hl
   cases C
   exact pure_ (by simp [execOp,j,hb,asBool]) (h.opd D) rfl
 ·obtain⟨v',w',loc',h1,D,C⟩:=Bi h hl
  exact val (by simp only [execOp,j]) h1 D C
 ·rcases h1:s.opd x with _|v1
  ·simp only [h1]at hl;exact fE s.boxes hl
  simp only [h1]at hl
  obtain⟨v',w',loc',h1,D,C⟩:=Cy (t:=t) h hl (h.opd h1)
  exact val (by simp only [execOp,j]) h1 D C
 ·rcases h1:tB s parts.toList with _|l
  ·simp only [h1]at hl;exact fE s.boxes hl
  simp only [h1]at hl
  have hp:=v7 h h1
  obtain⟨v',D,C,rfl⟩:=Bl (P:=P) (w:=w) (pvs:=parts.map fun(i,x)=>(i,a.eval x)) hl (by simpa using hp)
  exact val (S':=S) (loc':=loc) (by simp only [execOp,j]) D h C
 ·rcases h1:tB s parts.toList with _|l
  ·simp only [h1]at hl;exact fE s.boxes hl
  simp only [h1]at hl
  have hp:=v7 h h1
  obtain⟨v',w',S',loc',D,C,H⟩:=yp (pvs:=parts.map fun(i,x)=>(i,a.eval x)) h hl (by simpa using hp)
  exact val (by simp only [execOp,j]) D C H
 ·rcases h1:s.opd x with _|v1
  ·simp only [h1]at hl;exact fE s.boxes hl
  simp only [h1]at hl
  obtain⟨v',D,C,rfl⟩:=xl h hl (h.opd h1)
  exact val (S':=S) (loc':=loc) (by simp only [execOp,j]) D h C
 ·rcases h1:s.opd x with _|v1
  ·simp only [h1]at hl;exact fE s.boxes hl
  rcases D:s.opd y with _|v2
  ·simp only [h1,D]at hl;exact fE s.boxes hl
  simp only [h1,D]at hl
  obtain⟨w',S',loc',C,H,rfl⟩:=BF h hl (h.opd h1) (h.opd D)
  exact wc.skip U E (w':=w') (by simp [execOp,j,C]) H
 ·rcases h1:s.opd x with _|v1
  ·simp only [h1]at hl;exact fE s.boxes hl
  simp only [h1]at hl
  obtain⟨ad,he,D,rfl,_⟩:=xn h hl (h.opd h1)
  refine pure_ (v':= .pointer (some ad)) (by simp [execOp,j,he]) ?_ rfl
  rwa [Addr.add_zero']at D
 ·rcases h1:s.opd x with _|v1
  ·simp only [h1]at hl;exact fE s.boxes hl
  rcases D:s.opd y with _|v2
  ·simp only [h1,D]at hl;exact fE s.boxes hl
  simp only [h1,D]at hl
  obtain⟨p,C,H, -⟩:=wO hl
  cases H
  obtain⟨v',T,h6⟩:=Cx (P:=P) (w:=w) t x y C (h.opd h1) (h.opd D)
  exact val (S':=S) (loc':=loc) (by simp only [execOp,j]) T h (.d h6)
 ·cases op with
  |not=>
   rcases h1:s.opd x with _|v1
   ·simp only [h1]at hl;exact fE s.boxes hl
   simp only [h1]at hl
   obtain⟨p,C,H, -⟩:=wO hl
   cases H
   rcases v1 with p'|_|_|_|_|_|_|_|_|_|_|_|_<;>first|(simp [notD]at C;done)|skip
   cases p'<;>first|(simp [notD]at C;done)|skip
   simp only [notD,DJ,DL,and_true]at C
   subst C
   have hb:=(h.opd h1).uX
   exact val (S':=S) (loc':=loc) (m:=Op.unary .not (a.eval x)) (by simp only [execOp,j]) (by rw [hb];rfl) h (.d (.bool _))
  |neg=>
   rcases h1:s.opd x with _|v1
   ·simp only [h1]at hl;exact fE s.boxes hl
   simp only [h1]at hl
   obtain⟨p,C,H, -⟩:=wO hl
   cases H
   rcases v1 with p'|_|_|_|_|_|_|_|_|_|_|_|_<;>first|(simp [negD]at C;done)|skip
   cases p'<;>first|(simp [negD]at C;done)|skip
   simp only [negD,DJ,DL,and_true]at C
   subst C
   have hb:=(h.opd h1).sk
   exact val (S':=S) (loc':=loc) (m:=Op.unary .neg (a.eval x)) (by simp only [execOp,j]) (by rw [hb];rfl) h (.d (.int _ _))
  |xor=>exact fE s.boxes hl
  |plus=>exact fE s.boxes hl
 ·rcases h1:s.opd x with _|v1
  ·simp only [h1]at hl;exact fE s.boxes hl
  simp only [h1]at hl
  obtain⟨v',w',loc',T,h6,h7⟩:=BW h hl (h.opd h1)
  exact val (S':=S) (loc':=loc') (by simp only [execOp,j]) T h6 h7
 ·rcases h1:s.opd x with _|v1
  ·simp only [h1]at hl;exact fE s.boxes hl
  simp only [h1]at hl
  obtain⟨v',C,H,rfl⟩:=CN (w:=w) hl (h.opd h1)
  exact val (S':=S) (loc':=loc) (by simp only [execOp,j]) C h H
 ·rcases D:tK s y.toList with _|l
  ·simp only [D]at hl;exact fE s.boxes hl
  simp only [D]at hl
  obtain⟨fl⟩:=x
  cases fn<;>first|exact fE s.boxes hl|skip
  rename_i g
  obtain⟨g1,g2⟩:=yZ h D
  rcases fl with _|⟨x0,_|⟨x1,fl⟩⟩<;>first|exact fE s.boxes hl|skip
  rotate_left
  ·simp only at hl
   rcases C:s.opd x0 with _|rv
   ·simp only [C]at hl;exact fE s.boxes hl
   rw [C]at hl
   rcases rv with p|_|_|_|_|_|_|_|_|_|_|_|_<;>first|exact fE s.boxes hl|skip
   cases p<;>first|exact fE s.boxes hl|skip
   rename_i cs
   cases cs<;>first|exact fE s.boxes hl|skip
   cases l<;>first|exact fE s.boxes hl|skip
   obtain⟨H, -, -⟩:=rH hl
   cases H
   have c2:a.eval x0= .agg #[]:=by
    have:=h.opd C
    generalize a.eval x0=q at this
    cases this with
    |d hh=>cases hh with
     |agg _ vs c1 _=>
      have hz:vs= #[]:=FG (by simpa using c1)
      rw [hz]
   have K:y= #[]:=FG (by simpa using g1.symm)
   subst K
   refine val (S':=S) (loc':=loc) (v':= .func (.func g) #[.agg #[]] #[]) (w':=w) (m:=Instr.makeFunc (.func g) #[.agg #[]] #[]) (by simp [execOp,j,c2]) rfl h (.d (.raw _ rfl))
  obtain⟨C, -, -⟩:=rH hl
  cases C
  refine val (S':=S) (loc':=loc) (v':= .func (.func g) #[] (y.map a.eval)) (w':=w) (m:=Instr.makeFunc (.func g) #[] (y.map a.eval)) (by simp only [execOp,j,FE,FD]) rfl h ?_
  exact .clo g l _ (by simpa using g1.symm) (fun i c u hc hu=>g2 i c u hc (by simpa using hu))
 ·rcases h1:rV s x with _|v1
  ·simp only [h1]at hl;exact fE s.boxes hl
  rw [h1]at hl
  cases v1 with
  |some _=>exact fE s.boxes hl
  |none=>
   simp only at hl
   have J:x=none:=by
    cases x with
    |none=>rfl
    |some y=>simp only [rV]at h1;split at h1<;>cases h1
   subst J
   obtain⟨v',w',loc',D,C,H⟩:=AB h hl
   exact val (by simp only [execOp,j,Option.map_none]) D C H
 ·rcases h1:s.opd x with _|v1
  ·simp only [h1]at hl;exact fE s.boxes hl
  rcases D:s.opd y with _|v2
  ·simp only [h1,D]at hl;exact fE s.boxes hl
  simp only [h1,D]at hl
  obtain⟨v',w',loc',C,H,T⟩:=yX h hl (h.opd h1) (h.opd D)
  exact val (by simp only [execOp,j]) C H T
 ·rcases h1:s.opd x with _|v1
  ·simp only [h1]at hl;exact fE s.boxes hl
  rcases D:rV s lo with _|v2
  ·simp only [h1,D]at hl;exact fE s.boxes hl
  rcases C:rV s hi with _|v3
  ·simp only [h1,D,C]at hl;exact fE s.boxes hl
  rcases H:rV s mx with _|v4
  ·simp only [h1,D,C,H]at hl;exact fE s.boxes hl
  simp only [h1,D,C,H]at hl
  split at hl
  ·obtain⟨v',S',loc',T,h6,h7⟩:=Cl h hl (h.opd h1) (uz h D) (uz h C) (uz h H)
   exact val (S':=S') (loc':=loc') (by simp only [execOp,j]) T h6 h7
  ·obtain⟨v',S',loc',T,h6,h7⟩:=BD h hl (h.opd h1) (uz h D) (uz h C) (uz h H)
   exact val (S':=S') (loc':=loc') (by simp only [execOp,j]) T h6 h7
 ·rcases h1:s.opd x with _|v1
  ·simp only [h1]at hl;exact fE s.boxes hl
  simp only [h1]at hl
  obtain⟨v',D,C,rfl⟩:=yP h hl (h.opd h1)
  exact val (S':=S) (loc':=loc) (by simp only [execOp,j]) D h C
 ·rcases h1:s.opd x with _|v1
  ·simp only [h1]at hl;exact fE s.boxes hl
  simp only [h1]at hl
  obtain⟨v',D,C,rfl⟩:=Bo (P:=P) (w:=w) hl (h.opd h1)
  exact val (S':=S) (loc':=loc) (by simp only [execOp,j]) D h C
 ·rcases h1:s.opd x with _|v1
  ·simp only [h1]at hl;exact fE s.boxes hl
  rcases D:s.opd y with _|v2
  ·simp only [h1,D]at hl;exact fE s.boxes hl
  simp only [h1,D]at hl
  obtain⟨v',C,H,rfl⟩:=yT h hl (h.opd h1) (h.opd D)
  exact val (S':=S) (loc':=loc) (by simp only [execOp,j]) C h H
 ·rcases h1:s.opd x with _|v1
  ·simp only [h1]at hl;exact fE s.boxes hl
  rcases D:s.opd y with _|v2
  ·simp only [h1,D]at hl;exact fE s.boxes hl
  simp only [h1,D]at hl
  obtain⟨v',C,H,rfl⟩:=Bu (P:=P) (w:=w) hl (h.opd h1) (h.opd D)
  exact val (S':=S) (loc':=loc) (by simp only [execOp,j]) C h H
 ·rcases h1:s.opd x with _|v1
  ·simp only [h1]at hl;exact fE s.boxes hl
  rcases D:s.opd y with _|v2
  ·simp only [h1,D]at hl;exact fE s.boxes hl
  simp only [h1,D]at hl
  obtain⟨v',C,H,rfl⟩:=AX h hl (h.opd h1) (h.opd D)
  exact val (S':=S) (loc':=loc) (by simp only [execOp,j]) C h H
 ·rcases h1:s.opd x with _|v1
  ·simp only [h1]at hl;exact fE s.boxes hl
  rcases D:s.opd y with _|v2
  ·simp only [h1,D]at hl;exact fE s.boxes hl
  rcases C:s.opd c with _|v3
  ·simp only [h1,D,C]at hl;exact fE s.boxes hl
  simp only [h1,D,C]at hl
  obtain⟨w',S',loc',H,T,rfl⟩:=AY h hl (h.opd h1) (h.opd D) (h.opd C)
  exact wc.skip U E (w':=w') (by simp [execOp,j,H]) T
 ·rcases h1:s.opd x with _|v1
  ·simp only [h1]at hl;exact fE s.boxes hl
  simp only [h1]at hl
  obtain⟨v',C,H,rfl⟩:=AV (w:=w) (xt:=t) hl (h.opd h1)
  exact val (S':=S) (loc':=loc) (by simp only [execOp,j]) C h H
 ·rcases h1:s.opd x with _|v1
  ·simp only [h1]at hl;exact fE s.boxes hl
  rw [h1]at hl
  rcases v1 with p|_|_|_|_|vs|_|_|_|_|_|_|_<;>first|exact fE s.boxes hl|skip
  rcases D:vs[i]? with _|v2
  ·simp only [D]at hl;exact fE s.boxes hl
  simp only [D]at hl
  obtain⟨C, -, -⟩:=rH hl
  cases C
  have Y:=h.opd h1
  generalize J:a.eval x=vx at Y
  cases Y with
  |tup _ ws hlen hc=>
   have b6:i<ws.size:=by rw [hlen];exact(List.getElem?_eq_some_iff.1 D).1
   have hw:=Array.getElem?_eq_getElem b6
   refine val (S':=S) (loc':=loc) (v':=ws[i]) (w':=w) (m:=Instr.extract (.tuple ws) i) (by simp only [execOp,j,J]) ?_ h (hc i v _ D hw)
   simp [Instr.extract,hw]
 ·obtain⟨callee,args,argTypes⟩:=c
  simp only at hl
  rcases D:tK s args.toList with _|l
  ·rw [D]at hl;cases callee with
   |value f=>exact fE s.boxes hl
   |invoke r m=>exact fE s.boxes hl
   |builtin b=>cases b<;>exact fE s.boxes hl
  rw [D]at hl
  obtain⟨g1,g2⟩:=yZ h D
  cases callee with
  |invoke rc m=>
   rcases C:s.opd rc with _|v1
   ·simp only [C]at hl;exact fE s.boxes hl
   simp only [C]at hl
   have Y:=h.opd C
   obtain⟨t,c,f,rfl,b0⟩:=Bw hl
   generalize b1:a.eval rc=vrc at Y
   cases Y with
   |ifc _ _ vc hc=>
    have W:l.length=args.size:=by simpa using g1
    have F:∀(v0:RV)(w0:Value),R S loc v0 w0->∀(i:Nat)x y,(v0::l)[i]? =some x->(#[w0]++args.map a.eval)[i]? =some y->R S loc x y:=fun v0 w0 h0 i x y J K=>by
     cases i with
     |zero=>
      simp only [D0,DJ]at J
      rw [FJ zc]at K
      simp at K
      subst J K
      exact h0
     |succ i=>
      rw [DZ]at J
      rw [FK zc]at K
      exact g2 i x y J (by simpa using K)
    have e1:(#[Value.iface t vc]++FL a.eval args)[0]? =some (.iface t vc):=by rw [FJ zc];rfl
    have e2:(FL a.eval args).extract 0 args.size=FL a.eval args:=by
     apply FH
     simp only [Array.toList_extract,FM,List.extract_eq_take_drop,List.drop_zero,Nat.sub_zero]
     exact List.take_of_length_le zc
    rcases b0 with⟨hm,a5⟩|⟨e,v0,u0,r1,r2,hm,b5,a5⟩
    ·refine uY O h U E a5 (vs:= #[vc]++args.map a.eval) (by simp [W];omega) (F c vc hc) ?_
     rw [<-xd hm (v':=vc) rfl (args.map a.eval)]
     simp [execOp,j,resolve,b1,invoke,e1,e2]
    ·obtain⟨v1,a6,c0, -⟩:=xl h b5 hc
     refine uY O h U E a5 (vs:= #[v1]++args.map a.eval) (by simp [W];omega) (F v0 v1 c0) ?_
     rw [<-xd hm (v':=v1) a6 (args.map a.eval)]
     simp [execOp,j,resolve,b1,invoke,e1,e2]
  |value f=>
   rcases C:s.opd f with _|v1
   ·simp only [C]at hl;exact fE s.boxes hl
   simp only [C]at hl
   rcases v1 with p|_|_|_|_|_|_|_|_|_|_|⟨g,cs⟩|_<;>first|exact fE s.boxes hl|skip
   rotate_left
   ·have Y:=h.opd C
    generalize b4:a.eval f=vf at Y
    cases Y with
    |clo _ _ caps b3 b2=>
     have W:l.length=args.size:=by simpa using g1
     refine uY O h U E hl (vs:=args.map a.eval++caps) (by simp [W,b3]) (fun i x y J K=>?_) ?_
     ·by_cases hi:i<l.length
      ·rw [List.getElem?_append_left hi]at J
       rw [FJ so]at K
       exact g2 i x y J (by simpa using K)
      ·rw [List.getElem?_append_right za]at J
       rw [FK so]at K
       have e:(args.map a.eval).size=l.length:=by simp [W]
       rw [e]at K
       exact b2 _ x y J K
     ·simp only [execOp,j,resolve,b4,ET,Deferred.ofValue,EV,EH,invoke]
      simp
   cases p<;>first|exact fE s.boxes hl|skip
   rename_i fv
   have hf:=(h.opd C).raw_inv
   cases fv<;>first|exact fE s.boxes hl|skip
   rename_i fn first captured
   cases fn<;>first|exact fE s.boxes hl|skip
   rename_i g
   obtain⟨fl⟩:=first
   obtain⟨cl⟩:=captured
   rcases fl with _|⟨f0,_|⟨f1,fl⟩⟩
   rotate_left
   ·cases f0<;>first|exact fE s.boxes hl|skip
    rename_i fa
    obtain⟨fa⟩:=fa
    cases fa<;>first|exact fE s.boxes hl|skip
    cases cl<;>first|exact fE s.boxes hl|skip
    have W:l.length=args.size:=by simpa using g1
    refine uY O h U E hl (vs:= #[.agg #[]]++args.map a.eval) (by simp [W];omega) (fun i x y J K=>?_) ?_
    ·cases i with
     |zero=>
      simp only [D0,DJ]at J
      rw [FJ zc]at K
      simp at K
      subst J K
      exact .d (.agg [] #[] rfl (fun i p v hp=>by simp at hp))
     |succ i=>
      rw [DZ]at J
      rw [FK zc]at K
      exact g2 i x y J (by simpa using K)
    ·simp only [execOp,j,resolve,hf,ET,Deferred.ofValue,EV,EH,invoke]
     simp
   ·cases f0<;>first|exact fE s.boxes hl|skip
    all_goals (try(exact fE s.boxes hl))
    all_goals (rename_i fa;obtain⟨fa⟩:=fa;cases fa<;>exact fE s.boxes hl)
   cases cl<;>first|exact fE s.boxes hl|skip
   refine uY O h U E hl (vs:=args.map a.eval) (by simpa using g1) (fun i x y J K=>g2 i x y J (by simpa using K)) ?_
   simp only [execOp,j,resolve,hf,ET,Deferred.ofValue,EV,EH,invoke]
   simp
  |builtin b=>
   cases b<;>first|exact fE s.boxes hl|skip
   case append=>
    rcases l with _|⟨x,_|⟨y,_|⟨z,l⟩⟩⟩<;>first|exact fE s.boxes hl|skip
    by_cases I:argTypes.size=2
    rotate_left
    ·simp only [I,if_false]at hl;exact fE s.boxes hl
    simp only [I,if_true]at hl
    obtain⟨L,y',F⟩:∃L y',args.toList=[L,y']:=by
     rcases hq:args.toList with _|⟨p,_|⟨q,_|⟨z,l⟩⟩⟩<;>simp [hq]at g1
     exact⟨p,q,rfl⟩
    have G:args= #[L,y']:=by apply FH;exact F
    subst G
    obtain⟨t1,t2,Q⟩:∃t1 t2,argTypes= #[t1,t2]:=by
     obtain⟨l⟩:=argTypes
     rcases l with _|⟨p,_|⟨q,_|⟨z,l⟩⟩⟩<;>simp at I
     exact⟨p,q,rfl⟩
    subst Q
    have J:=g2 0 x (a.eval L) rfl rfl
    have K:=g2 1 y (a.eval y') rfl rfl
    by_cases a9:t1=t2
    rotate_left
    ·have a5:zp P (o.dst.getD 0*16) t1 t2 x y s.boxes=some ((v,u),r,true):=by
      rw [if_neg (show ¬(#[t1,t2]:Array TypeId).getD 0 0=(#[t1,t2]:Array TypeId).getD 1 0 from a9)]at hl
      exact hl
     obtain⟨v',w',loc',C,H,T⟩:=BM (ty:=o.type) h a5 J K
     refine wc.value U E (v':=v') (w':=w') ?_ H T
     simp only [execOp,j,resolve,ET,EV,EH,invoke,builtin,FE,FC,FD]
     have N:(Builtin.append_ #[t1,t2] o.type #[a.eval L,a.eval y']).run P w= .ok v' w':=C
     rw [N]
     rfl
    rw [if_pos (show(#[t1,t2]:Array TypeId).getD 0 0=(#[t1,t2]:Array TypeId).getD 1 0 from a9)]at hl
    replace hl:te P (o.dst.getD 0*16) t1 t2 x y s.boxes=some ((v,u),r,true):=hl
    obtain⟨Q,v',w',S',loc',C,H,T⟩:=AU (ty:=o.type) h hl J K
    subst Q
    refine wc.value U E (v':=v') (w':=w') ?_ H T
    simp only [execOp,j,resolve,ET,EV,EH,invoke,builtin,FE,FC,FD]
    have N:(Builtin.append_ #[t1,t1] o.type #[a.eval L,a.eval y']).run P w= .ok v' w':=C
    rw [N]
    rfl
   case copy=>
    rcases l with _|⟨x,_|⟨y,_|⟨z,l⟩⟩⟩<;>first|exact fE s.boxes hl|skip
    by_cases I:argTypes.size=2
    rotate_left
    ·simp only [I,if_false]at hl;exact fE s.boxes hl
    simp only [I,if_true]at hl
    obtain⟨L,y',F⟩:∃L y',args.toList=[L,y']:=by
     rcases hq:args.toList with _|⟨p,_|⟨q,_|⟨z,l⟩⟩⟩<;>simp [hq]at g1
     exact⟨p,q,rfl⟩
    have G:args= #[L,y']:=by apply FH;exact F
    subst G
    obtain⟨t1,t2,Q⟩:∃t1 t2,argTypes= #[t1,t2]:=by
     obtain⟨l⟩:=argTypes
     rcases l with _|⟨p,_|⟨q,_|⟨z,l⟩⟩⟩<;>simp at I
     exact⟨p,q,rfl⟩
    subst Q
    have J:=g2 0 x (a.eval L) rfl rfl
    have K:=g2 1 y (a.eval y') rfl rfl
    replace hl:xO P t1 x y s.boxes=some ((v,u),r,true):=hl
    obtain⟨v',w',S',loc',C,H,T⟩:=BY (t':=t2) (ty:=o.type) h hl J K
    refine wc.value U E (v':=v') (w':=w') ?_ H T
    simp only [execOp,j,resolve,ET,EV,EH,invoke,builtin,FE,FC,FD]
    have N:(Builtin.copy_ #[t1,t2] o.type #[a.eval L,a.eval y']).run P w= .ok v' w':=C
    rw [N]
    rfl
   case clear=>
    rcases l with _|⟨x,_|⟨y,l⟩⟩<;>first|exact fE s.boxes hl|skip
    obtain⟨L,F⟩:∃L,args.toList=[L]:=by
     rcases hq:args.toList with _|⟨p,_|⟨q,l⟩⟩<;>simp [hq]at g1
     exact⟨p,rfl⟩
    have G:args= #[L]:=by apply FH;exact F
    subst G
    have J:=g2 0 x (a.eval L) rfl rfl
    by_cases I:argTypes.size=1
    rotate_left
    ·simp only [I,if_false]at hl;exact fE s.boxes hl
    simp only [I,if_true]at hl
    obtain⟨t1,Q⟩:∃t1,argTypes= #[t1]:=by
     obtain⟨l⟩:=argTypes
     rcases l with _|⟨p,_|⟨q,l⟩⟩<;>simp at I
     exact⟨p,rfl⟩
    subst Q
    replace hl:vY P t1 x s.boxes=some ((v,u),r,true):=hl
    obtain⟨v',w',S',loc',C,H,T⟩:=Bm (ty:=o.type) h hl J
    refine wc.value U E (v':=v') (w':=w') ?_ H T
    simp only [execOp,j,resolve,ET,EV,EH,invoke,builtin,FE,FC,FD]
    have N:(Builtin.clear_ #[t1] o.type #[a.eval L]).run P w= .ok v' w':=C
    rw [N]
    rfl
   case min=>
    obtain⟨v',C,H,rfl⟩:=CV (P:=P) (w:=w) (ts:=argTypes) (ty:=o.type) (vs:=args.map a.eval) hl (by simpa using g1) (fun i x y J K=>g2 i x y J (by simpa using K))
    refine wc.value U E (v':=v') (w':=w) ?_ h H
    simp only [execOp,j,resolve,ET,EV,EH,invoke,builtin]
    rw [C]
    rfl
   case max=>
    obtain⟨v',C,H,rfl⟩:=CU (P:=P) (w:=w) (ts:=argTypes) (ty:=o.type) (vs:=args.map a.eval) hl (by simpa using g1) (fun i x y J K=>g2 i x y J (by simpa using K))
    refine wc.value U E (v':=v') (w':=w) ?_ h H
    simp only [execOp,j,resolve,ET,EV,EH,invoke,builtin]
    rw [C]
    rfl
   case cap=>
    rcases l with _|⟨x,_|⟨y,l⟩⟩<;>first|exact fE s.boxes hl|skip
    obtain⟨L,F⟩:∃L,args.toList=[L]:=by
     rcases hq:args.toList with _|⟨p,_|⟨q,l⟩⟩<;>simp [hq]at g1
     exact⟨p,rfl⟩
    have G:args= #[L]:=by apply FH;exact F
    subst G
    have J:=g2 0 x (a.eval L) rfl rfl
    by_cases I:argTypes.size=1
    rotate_left
    ·simp only [I,if_false]at hl;exact fE s.boxes hl
    simp only [I,if_true]at hl
    obtain⟨t1,Q⟩:∃t1,argTypes= #[t1]:=by
     obtain⟨l⟩:=argTypes
     rcases l with _|⟨p,_|⟨q,l⟩⟩<;>simp at I
     exact⟨p,rfl⟩
    subst Q
    obtain⟨v',C,H,rfl⟩:=CB (ty:=o.type) h hl J
    refine wc.value U E (v':=v') (w':=w) ?_ h H
    simp only [execOp,j,resolve,ET,EV,EH,invoke,builtin,FE,FC,FD]
    have N:(Builtin.cap_ #[t1] o.type #[a.eval L]).run P w= .ok v' w:=C
    rw [N]
    rfl
   case len=>
    rcases l with _|⟨x,_|⟨y,l⟩⟩<;>first|exact fE s.boxes hl|skip
    obtain⟨L,F⟩:∃L,args.toList=[L]:=by
     rcases hq:args.toList with _|⟨p,_|⟨q,l⟩⟩<;>simp [hq]at g1
     exact⟨p,rfl⟩
    have G:args= #[L]:=by apply FH;exact F
    subst G
    have J:=g2 0 x (a.eval L) rfl rfl
    by_cases I:argTypes.size=1
    rotate_left
    ·simp only [I,if_false]at hl;exact fE s.boxes hl
    simp only [I,if_true]at hl
    obtain⟨t1,Q⟩:∃t1,argTypes= #[t1]:=by
     obtain⟨l⟩:=argTypes
     rcases l with _|⟨p,_|⟨q,l⟩⟩<;>simp at I
     exact⟨p,rfl⟩
    subst Q
    obtain⟨v',C,H,rfl⟩:=CR (ty:=o.type) h hl J
    refine wc.value U E (v':=v') (w':=w) ?_ h H
    simp only [execOp,j,resolve,ET,EV,EH,invoke,builtin,FE,FC,FD]
    have N:(Builtin.len_ #[t1] o.type #[a.eval L]).run P w= .ok v' w:=C
    rw [N]
    rfl
end
end Go.Dw
