
import Derived.Test.YtfmoipelhfkdkaaGreatDoorDwIfc
import Derived.Test.YtfmoipelhfkdkaaGreatDoorDwEq
import Derived.Lib.ConvBytes
import Derived.Laws.IdiomStrings
import Derived.Laws.BytesArg
set_option linter.unusedVariables false
set_option linter.unusedSimpArgs false
open Option.some renaming injEq->DB
open List renaming getD->Dn, getElem?_cons_succ->DR, getElem?_cons_zero->DS, getElem?_map->ED, length_map->Ea, map_cons->Ed, map_nil->Ee, map_toArray->Ef, mem_of_getElem?->DY
open Prod.mk renaming injEq->DD
open Go.Sem renaming run_bind->Dy, run_pure->EA
open Nat renaming add_zero->D2, mul_one->Eg
open Array renaming eq_empty_of_size_eq_zero->Eh, ext'->Ei, getElem?_append_left->Ej, getElem?_append_right->Ek, map->El, toList_map->Em
open Go.Result renaming andThen_ok->D9

namespace Go.Dw
section
variable {P:Program}{X:Ctx}{S:rC}{loc:sf}{s:St}{w:World}{a:Act}
theorem yK(h:Sim P X S loc s a.tmps w):∀{xs:List Operand}{l:List RV},tE s xs=some l->l.length=xs.length∧∀(i:Nat)x v,l[i]? =some x->(xs.map a.eval)[i]? =some v->R S loc x v
 | [],l,hl=>by
  simp only [tE,DB]at hl
  subst hl
  exact⟨rfl,fun i x v j=>by simp at j⟩
 |x::xs,l,hl=>by
  simp only [tE]at hl
  rcases h1:s.opd x with _|v
  ·simp [h1]at hl
  rcases g:tE s xs with _|r
  ·simp [h1,g]at hl
  simp only [h1,g,DB]at hl
  subst hl
  obtain⟨g1,g2⟩:=yK h g
  refine⟨by simp [g1],fun i y u f hu=>?_⟩
  cases i with
  |zero=>
   simp only [DS,DB,Ed]at f hu
   subst f;subst hu
   exact h.opd h1
  |succ i=>simp only [DR,Ed]at f hu;exact g2 i y u f hu
theorem vO(h:Sim P X S loc s a.tmps w):∀{xs:List (Nat×Operand)}{l:List (Nat×RV)},tj s xs=some l->Bu S loc l (xs.map fun(i,x)=>(i,a.eval x))
 | [],l,hl=>by
  simp only [tj,DB]at hl
  subst hl
  exact⟨rfl,fun i x v j=>by simp at j⟩
 |(k,x)::xs,l,hl=>by
  simp only [tj]at hl
  rcases h1:s.opd x with _|v
  ·simp [h1]at hl
  rcases g:tj s xs with _|r
  ·simp [h1,g]at hl
  simp only [h1,g,DB]at hl
  subst hl
  obtain⟨g1,g2⟩:=vO h g
  refine⟨by simpa using g1,fun i y u f hu=>?_⟩
  cases i with
  |zero=>
   simp only [DS,DB,Ed]at f hu
   subst f;subst hu
   exact⟨rfl,h.opd h1⟩
  |succ i=>simp only [DR,Ed]at f hu;exact g2 i y u f hu
theorem ug(h:Sim P X S loc s a.tmps w){x:Option Operand}{v:Option RV}(f:rH s x=some v):RO S loc v (x.map a.eval):=by
 cases x with
 |none=>simp only [rH,DB]at f;subst f;exact .none
 |some x=>
  simp only [rH]at f
  rcases h1:s.opd x with _|r
  ·simp [h1]at f
  simp only [h1,DB]at f
  subst f
  exact .some (h.opd h1)
theorem BG{src dst:TypeId}{x:RV}{p:PD}{v:Value}(h:convD P src dst x=some (p,true))(g:R S loc x v):∃v',(convert src dst v).run P w= .ok v' w∧V S p v':=by
 unfold convD at h
 rcases h1:P.underlying src with _|d1
 ·simp [h1]at h
 rcases f:P.underlying dst with _|d2
 ·cases d1<;>simp [h1,f]at h
 cases d1<;>cases d2<;>first|(simp [h1,f]at h;done)|skip
 all_goals (rcases x with j|_|_|_|_|_|_|_|_|_|_|_|_<;>first|(simp [h1,f]at h;done)|skip)
 all_goals (cases j<;>first|(simp [h1,f]at h;done)|skip)
 ·simp only [h1,f,DB,DD,and_true]at h
  subst h
  have:=g.rZ
  subst this
  exact⟨_,by simp [convert,run_underlying h1,run_underlying f,Conv.intToInt],.int _ _⟩
 ·simp only [h1,f,DB,DD,and_true]at h
  subst h
  have:=g.wI
  subst this
  exact⟨_,by simp [convert,run_underlying h1,run_underlying f],.str _⟩
theorem Cf(w:World)(e:TypeId)(b:ByteArray):Step none w (Lib.bytesWorld w e b):=
 ⟨rfl,rfl,rfl,by rw [Lib.bytesWorld_size];omega,fun j f _=>Lib.bytesWorld_at_old w e b j f,Nat.le_succ _⟩
theorem BE(P:Program)(id:Nat)(src dst:TypeId)(x:RV):(∃e str,P.underlying src=some .string∧P.underlying dst=some (.slice e)∧x= .d (.str str))∨(∃e i ver,P.underlying src=some (.slice e)∧P.underlying dst=some .string∧x= .ref i ver)∨(∃e es,P.underlying src=some (.slice e)∧P.underlying dst=some .string∧x= .d (.lst es))∨
  wL P id src dst x=wN (convD P src dst x):=by
 unfold wL
 split
 ·exact .inl ⟨_,_,by assumption,by assumption,rfl⟩
 ·exact .inr (.inl ⟨_,_,_,by assumption,by assumption,rfl⟩)
 ·exact .inr (.inr (.inl ⟨_,_,by assumption,by assumption,rfl⟩))
 ·exact .inr (.inr (.inr rfl))
theorem Ck(h:Sim P X S loc s a.tmps w){src dst e:TypeId}{ns:List Int}{C:Value}(hs:P.underlying src=some (.slice e))(he:P.underlying e=some (.int .u8))(r:P.underlying dst=some .string)(B:V S (.lst (ns.map (.int .u8))) C):
  (convert src dst C).run P w= .ok (.string ⟨(strU ns).toArray⟩) w:=by
 generalize g:ns.map (PD.int .u8)=es at B
 cases B with
 |nil a c=>
  obtain rfl:=List.map_eq_nil_iff.1 g
  rw [run_convert_bytes_string w src dst e a 0 c hs he r]
  cases a<;>simp [Conv.bytesToString,loadCells,loadCellsFrom,strU,EA]<;>rfl
 |lst _ b o c sz f hc j hS hV=>
  subst g
  rw [Ea]
  refine run_convert_bytes_arg w src e hs he b o ns.length c ns rfl (fun i hi=>?_) dst r
  have h1:(ns.map (PD.int .u8))[i]? =some (.int .u8 ns[i]):=by simp [hi]
  have D:sz=1:=by rw [<-j _ (DY h1)];rfl
  subst D
  have k:=h.imm _ _ (hS i _ 0 _ h1 rfl)
  have q:=(hV i _ 0 _ h1 rfl)
  rw [Eg,D2]at k
  rw [k]
  generalize f i 0=u at q
  cases q
  simp [Dn,hi]
theorem conv_row(h:Sim P X S loc s a.tmps w){src dst e G:TypeId}{i ver:Nat}{ns:List Int}{F:Value}(hs:P.underlying src=some (.slice e))(he:P.underlying e=some (.int .u8))(C:P.underlying dst=some .string)
  (I:s.boxes i=some (.arr ver G (ns.map (.int .u8)))) (K:R S loc (.ref i ver) F):
  (convert src dst F).run P w= .ok (.string ⟨(strU ns).toArray⟩) w:=by
 obtain⟨sz,xs,E,J,how,hf⟩:=h.vL I K
 by_cases k:ns=[]
 ·subst k
  obtain⟨q,c,rfl,_⟩:=how.hdr
  rw [Ee,List.length_nil,run_convert_bytes_string w src dst e q 0 c hs he C]
  cases q<;>simp [Conv.bytesToString,loadCells,loadCellsFrom,strU,EA]<;>rfl
 ·have f:0<ns.length:=by cases ns with|nil=>exact(k rfl).elim|cons=>simp
  have how:=how.vP (by simpa using f)
  obtain⟨g,c,rfl⟩:=uR how (by simpa using f)
  rw [Ea]
  refine run_convert_bytes_arg w src e hs he g 0 ns.length c ns rfl (fun j D=>?_) dst C
  have h1:(ns.map (PD.int .u8))[j]? =some (.int .u8 ns[j]):=by simp [D]
  have L:sz=1:=by rw [<-hf.len _ (DY h1)];rfl
  subst L
  obtain⟨u,r,H⟩:=hf.cell j _ 0 _ h1 rfl
  rw [Eg,D2]at r
  have B:=how.cells (g:=g) rfl j u r
  rw [sJ]at B
  rw [B]
  cases H
  simp [Dn,D]
theorem BF(h:Sim P X S loc s a.tmps w){id:Nat}{src dst:TypeId}{x v:RV}{u:Ups}{r:List Nat}{W:Value}(hl:wL P id src dst x s.boxes=some ((v,u),r,true))(T:R S loc x W):
  ∃v' w' loc',(convert src dst W).run P w= .ok v' w'∧Sim P X S loc' (s.ups u) a.tmps w'∧R S loc' v v':=by
 rcases BE P id src dst x with⟨e,str,hs,D,rfl⟩|⟨e,i,ver,hs,D,rfl⟩|⟨e,es,hs,D,rfl⟩|hc
 ·unfold wL at hl
  simp only [hs,D]at hl
  by_cases he:P.underlying e=some (.int .u8)
  ·simp only [he]at hl
   obtain⟨_,r1,r2,h1,B,_⟩:=M.bind_some hl
   obtain⟨I,_,_⟩:=M.su h1
   obtain⟨F, -,hc⟩:=M.rm B
   cases F
   have e1:=T.wI
   subst e1
   obtain⟨hz,hlen⟩:=of_decide_eq_true hc.symm
   have H:ByteArray.size ⟨str.toArray⟩=str.length:=by simp [ByteArray.size]
   have K:=grownCap_ge w (ByteArray.size ⟨str.toArray⟩) 0 e
   have C:=grownCap_le_maxLen w (ByteArray.size ⟨str.toArray⟩) 0 e (by rw [H];simp only [maxLen];omega)
   have E:=Lib.run_convert_string_bytes (P:=P) w src dst e ⟨str.toArray⟩ hs D he
   have L:=Lib.bytesWorld_at_new w e ⟨str.toArray⟩
   rw [H]at K C E
   have J:(Lib.bytesCells w e ⟨str.toArray⟩).size=grownCap w str.length 0 e:=by
    simp only [Lib.bytesCells,Array.size_append,Array.size_map,Array.size_replicate,H]
    simp;omega
   obtain⟨loc',h1,B,_⟩:=h.xb (P:=P) (w':=Lib.bytesWorld w e ⟨str.toArray⟩) (es:=str.map fun b=>.int .u8 b.toNat) (xs:=str.map fun b=>.int .u8 b.toNat) I (Cf w e _) hz
    (hdr:= .slice (some ⟨w.heap.size,0,none⟩) str.length (grownCap w str.length 0 e))
    (.inl ⟨zc, .inr ⟨w.heap.size, _, _, _, zc, .inr ⟨J, rfl⟩, L, by simpa using K, C, by simpa using J, by
     simp only [Lib.bytesCells,Ea,Eg,Array.toList_append,Em]
     exact List.take_left' zc⟩⟩)
    ⟨by simp [PD.cells], by simp; intro a _; rfl, fun i y j x hi U => by
     rw [ED,Option.map_eq_some_iff]at hi
     obtain⟨b,I,rfl⟩:=hi
     cases j with
     |succ j=>simp [PD.cells]at U
     |zero=>
      simp only [PD.cells,DS,DB]at U
      subst U
      exact⟨_,by rw [Eg,D2,ED,I];rfl,.int _ _⟩⟩
    (fun g O => by
     unfold sX at O
     split at O
     ·rename_i h1
      simp only [Value.slice.injEq,DB]at h1
      obtain⟨h1, -⟩:=h1
      subst h1
      cases O
      exact Nat.le_refl _
     ·cases O) rfl
   exact⟨_,_,loc',E,h1,B⟩
  ·rcases f:P.underlying e with _|q
   ·simp only [f]at hl;exact fE s.boxes hl
   ·cases q<;>first|(simp only [f]at hl;exact fE s.boxes hl)|skip
    rename_i k
    cases k<;>first|exact(he f).elim|(simp only [f]at hl;exact fE s.boxes hl)
 ·unfold wL at hl
  simp only [hs,D]at hl
  by_cases he:P.underlying e=some (.int .u8)
  ·simp only [he]at hl
   obtain⟨Y,r1,r2,h1,B,_⟩:=M.bind_some hl
   obtain⟨I,_,_⟩:=M.get_some h1
   cases Y<;>first|exact fE s.boxes B|skip
   rename_i N e' es
   by_cases Q:ver=N
   rotate_left
   ·simp only [Q,if_false]at B;exact fE s.boxes B
   subst Q
   simp only [if_true]at B
   rcases G:u8s es with _|ns
   ·simp only [G]at B;exact fE s.boxes B
   simp only [G]at B
   obtain⟨F, -, -⟩:=rp B
   cases F
   obtain rfl:=AA G
   exact⟨_,w,loc,conv_row h hs he D I T,h,.d (.str _)⟩
  ·rcases f:P.underlying e with _|q
   ·simp only [f]at hl;exact fE s.boxes hl
   ·cases q<;>first|(simp only [f]at hl;exact fE s.boxes hl)|skip
    rename_i k
    cases k<;>first|exact(he f).elim|(simp only [f]at hl;exact fE s.boxes hl)
 ·unfold wL at hl
  simp only [hs,D]at hl
  by_cases he:P.underlying e=some (.int .u8)
  ·simp only [he]at hl
   rcases G:u8s es with _|ns
   ·simp only [G]at hl;exact fE s.boxes hl
   simp only [G]at hl
   obtain⟨F, -, -⟩:=rp hl
   cases F
   obtain rfl:=AA G
   cases T with
   |d Q=>exact⟨_,w,loc,Ck h hs he D Q,h,.d (.str _)⟩
  ·rcases f:P.underlying e with _|q
   ·simp only [f]at hl;exact fE s.boxes hl
   ·cases q<;>first|(simp only [f]at hl;exact fE s.boxes hl)|skip
    rename_i k
    cases k<;>first|exact(he f).elim|(simp only [f]at hl;exact fE s.boxes hl)
 ·rw [hc]at hl
  obtain⟨p,F,h4, -⟩:=wD hl
  cases h4
  obtain⟨v',h5,h6⟩:=BG (P:=P) (w:=w) F T
  exact⟨v',w,loc,h5,h,.d h6⟩
theorem Cp{mt:Hf}{call:rA}(L:ue P X.base call){o:Oper}(hS:vK P X s a w)(D:∀d,o.dst=some d->d<X.nt){v:RV}{u:Ups}{r:List Nat}
  (hl:rz P mt call s o s.boxes=some ((v,u),r,true)):wa P X ((s.ups u).put o.dst v) o a w:=by
 obtain⟨T,S,loc,h⟩:=hS
 have pure_:∀{v':Value},(execOp a.eval o).run P w= .ok (.value v') w->R S loc v v'->u=[]->wa P X ((s.ups u).put o.dst v) o a w:=by
  intro v' a5 W hu
  subst hu
  exact wa.value T D a5 h W
 have val:∀{m:Sem Value}{v':Value}{w':World}{S':rC}{loc':sf},(execOp a.eval o)=(do pure (.value (<-m)))->m.run P w= .ok v' w'->Sim P X S' loc' (s.ups u) a.tmps w'->R S' loc' v v'->wa P X ((s.ups u).put o.dst v) o a w:=by
  intro m v' w' S' loc' he hm hs W
  refine wa.value T D (v':=v') (w':=w') ?_ hs W
  rw [he]
  simp [hm]
 unfold rz at hl
 rcases j:o.op with x|x|⟨c,x,y⟩|t|⟨t,x⟩|⟨t,parts⟩|⟨t,len,parts⟩|⟨t,m,k,x⟩|⟨t,x⟩|⟨t,x,y⟩|g|g|x|⟨op,t,x,y,t2⟩|⟨op,t,x⟩|⟨t,t2,x⟩|⟨t,x⟩|⟨t,x⟩|⟨fn,x,y⟩|⟨t,x⟩|⟨t,x⟩|⟨t,x,y⟩|⟨t,x,lo,hi,mx⟩|⟨t,x,f⟩|⟨t,x,f⟩|⟨t,x,y⟩|⟨t,x,y⟩|⟨t,x,y,c⟩|⟨t,x,y,c⟩|⟨t,x,y⟩|⟨t,x,y,c⟩|⟨t,x⟩|⟨x,b⟩|x|⟨x,t,t2,b⟩|⟨x,i⟩|c|c|c|x|⟨x,y⟩|⟨t,x,b⟩|⟨cs,b⟩
 all_goals (simp only [j]at hl)
 all_goals first|exact fE s.boxes hl|skip
 ·rcases h1:s.opd x with _|v1
  ·simp only [h1]at hl;exact fE s.boxes hl
  simp only [h1]at hl
  obtain⟨C, -, -⟩:=rp hl
  cases C
  exact pure_ (by simp [execOp,j]) (h.opd h1) rfl
 ·rcases h1:s.opd x with _|v1
  ·simp only [h1]at hl;exact fE s.boxes hl
  simp only [h1]at hl
  obtain⟨C, -, -⟩:=rp hl
  cases C
  exact pure_ (by simp [execOp,j]) (h.opd h1) rfl
 ·rcases h1:s.opd c with _|v1
  ·simp only [h1]at hl;exact fE s.boxes hl
  rw [h1]at hl
  rcases v1 with p|_|_|_|_|_|_|_|_|_|_|_|_<;>first|exact fE s.boxes hl|skip
  cases p<;>first|exact fE s.boxes hl|skip
  rename_i b
  have hb:=(h.opd h1).uM
  cases b
  ·rcases C:s.opd y with _|v2
   ·simp only [C,Bool.false_eq_true,if_false]at hl;exact fE s.boxes hl
   simp only [C,Bool.false_eq_true,if_false]at hl
   obtain⟨B, -, -⟩:=rp hl
   cases B
   exact pure_ (by simp [execOp,j,hb,asBool]) (h.opd C) rfl
  ·rcases C:s.opd x with _|v2
   ·simp only [C,if_true]at hl;exact fE s.boxes hl
   simp only [C,if_true]at hl
   obtain⟨B, -, -⟩:=rp hl
   cases B
   exact pure_ (by simp [execOp,j,hb,asBool]) (h.opd C) rfl
 ·obtain⟨v',w',loc',h1,C,B⟩:=A3 h hl
  exact val (by simp only [execOp,j]) h1 C B
 ·rcases h1:s.opd x with _|v1
  ·simp only [h1]at hl;exact fE s.boxes hl
  simp only [h1]at hl
  obtain⟨v',w',loc',h1,C,B⟩:=Cd (t:=t) h hl (h.opd h1)
  exact val (by simp only [execOp,j]) h1 C B
 ·rcases h1:tj s parts.toList with _|l
  ·simp only [h1]at hl;exact fE s.boxes hl
  simp only [h1]at hl
  have hp:=vO h h1
  obtain⟨v',C,B,rfl⟩:=A6 (P:=P) (w:=w) (pvs:=parts.map fun(i,x)=>(i,a.eval x)) hl (by simpa using hp)
  exact val (S':=S) (loc':=loc) (by simp only [execOp,j]) C h B
 ·rcases h1:tj s parts.toList with _|l
  ·simp only [h1]at hl;exact fE s.boxes hl
  simp only [h1]at hl
  have hp:=vO h h1
  obtain⟨v',w',S',loc',C,B,E⟩:=yb (pvs:=parts.map fun(i,x)=>(i,a.eval x)) h hl (by simpa using hp)
  exact val (by simp only [execOp,j]) C B E
 ·rcases h1:s.opd x with _|v1
  ·simp only [h1]at hl;exact fE s.boxes hl
  simp only [h1]at hl
  obtain⟨v',C,B,rfl⟩:=w7 h hl (h.opd h1)
  exact val (S':=S) (loc':=loc) (by simp only [execOp,j]) C h B
 ·rcases h1:s.opd x with _|v1
  ·simp only [h1]at hl;exact fE s.boxes hl
  rcases C:s.opd y with _|v2
  ·simp only [h1,C]at hl;exact fE s.boxes hl
  simp only [h1,C]at hl
  obtain⟨w',S',loc',B,E,rfl⟩:=Bq h hl (h.opd h1) (h.opd C)
  exact wa.skip T D (w':=w') (by simp [execOp,j,B]) E
 ·rcases h1:s.opd x with _|v1
  ·simp only [h1]at hl;exact fE s.boxes hl
  simp only [h1]at hl
  obtain⟨ad,he,C,rfl,_⟩:=w8 h hl (h.opd h1)
  refine pure_ (v':= .pointer (some ad)) (by simp [execOp,j,he]) ?_ rfl
  rwa [Addr.add_zero']at C
 ·rcases h1:s.opd x with _|v1
  ·simp only [h1]at hl;exact fE s.boxes hl
  rcases C:s.opd y with _|v2
  ·simp only [h1,C]at hl;exact fE s.boxes hl
  simp only [h1,C]at hl
  obtain⟨p,B,E, -⟩:=wD hl
  cases E
  obtain⟨v',Q,h6⟩:=Cc (P:=P) (w:=w) t x y B (h.opd h1) (h.opd C)
  exact val (S':=S) (loc':=loc) (by simp only [execOp,j]) Q h (.d h6)
 ·cases op with
  |not=>
   rcases h1:s.opd x with _|v1
   ·simp only [h1]at hl;exact fE s.boxes hl
   simp only [h1]at hl
   obtain⟨p,B,E, -⟩:=wD hl
   cases E
   rcases v1 with p'|_|_|_|_|_|_|_|_|_|_|_|_<;>first|(simp [notD]at B;done)|skip
   cases p'<;>first|(simp [notD]at B;done)|skip
   simp only [notD,DB,DD,and_true]at B
   subst B
   have hb:=(h.opd h1).uM
   exact val (S':=S) (loc':=loc) (m:=Op.unary .not (a.eval x)) (by simp only [execOp,j]) (by rw [hb];rfl) h (.d (.bool _))
  |neg=>
   rcases h1:s.opd x with _|v1
   ·simp only [h1]at hl;exact fE s.boxes hl
   simp only [h1]at hl
   obtain⟨p,B,E, -⟩:=wD hl
   cases E
   rcases v1 with p'|_|_|_|_|_|_|_|_|_|_|_|_<;>first|(simp [negD]at B;done)|skip
   cases p'<;>first|(simp [negD]at B;done)|skip
   simp only [negD,DB,DD,and_true]at B
   subst B
   have hb:=(h.opd h1).rZ
   exact val (S':=S) (loc':=loc) (m:=Op.unary .neg (a.eval x)) (by simp only [execOp,j]) (by rw [hb];rfl) h (.d (.int _ _))
  |xor=>exact fE s.boxes hl
  |plus=>exact fE s.boxes hl
 ·rcases h1:s.opd x with _|v1
  ·simp only [h1]at hl;exact fE s.boxes hl
  simp only [h1]at hl
  obtain⟨v',w',loc',Q,h6,h7⟩:=BF h hl (h.opd h1)
  exact val (S':=S) (loc':=loc') (by simp only [execOp,j]) Q h6 h7
 ·rcases h1:s.opd x with _|v1
  ·simp only [h1]at hl;exact fE s.boxes hl
  simp only [h1]at hl
  obtain⟨v',B,E,rfl⟩:=Cs (w:=w) hl (h.opd h1)
  exact val (S':=S) (loc':=loc) (by simp only [execOp,j]) B h E
 ·rcases C:tE s y.toList with _|l
  ·simp only [C]at hl;exact fE s.boxes hl
  simp only [C]at hl
  obtain⟨fl⟩:=x
  cases fn<;>first|exact fE s.boxes hl|skip
  rename_i g
  obtain⟨g1,g2⟩:=yK h C
  rcases fl with _|⟨x0,_|⟨x1,fl⟩⟩<;>first|exact fE s.boxes hl|skip
  rotate_left
  ·simp only at hl
   rcases B:s.opd x0 with _|rv
   ·simp only [B]at hl;exact fE s.boxes hl
   rw [B]at hl
   rcases rv with p|_|_|_|_|_|_|_|_|_|_|_|_<;>first|exact fE s.boxes hl|skip
   cases p<;>first|exact fE s.boxes hl|skip
   rename_i cs
   cases cs<;>first|exact fE s.boxes hl|skip
   cases l<;>first|exact fE s.boxes hl|skip
   obtain⟨E, -, -⟩:=rp hl
   cases E
   have c1:a.eval x0= .agg #[]:=by
    have:=h.opd B
    generalize a.eval x0=q at this
    cases this with
    |d hh=>cases hh with
     |agg _ vs c0 _=>
      have hz:vs= #[]:=Eh (by simpa using c0)
      rw [hz]
   have J:y= #[]:=Eh (by simpa using g1.symm)
   subst J
   refine val (S':=S) (loc':=loc) (v':= .func (.func g) #[.agg #[]] #[]) (w':=w) (m:=Instr.makeFunc (.func g) #[.agg #[]] #[]) (by simp [execOp,j,c1]) rfl h (.d (.raw _ rfl))
  obtain⟨B, -, -⟩:=rp hl
  cases B
  refine val (S':=S) (loc':=loc) (v':= .func (.func g) #[] (y.map a.eval)) (w':=w) (m:=Instr.makeFunc (.func g) #[] (y.map a.eval)) (by simp only [execOp,j,Ef,Ee]) rfl h ?_
  exact .clo g l _ (by simpa using g1.symm) (fun i c u hc hu=>g2 i c u hc (by simpa using hu))
 ·rcases h1:rH s x with _|v1
  ·simp only [h1]at hl;exact fE s.boxes hl
  rw [h1]at hl
  cases v1 with
  |some _=>exact fE s.boxes hl
  |none=>
   simp only at hl
   have H:x=none:=by
    cases x with
    |none=>rfl
    |some y=>simp only [rH]at h1;split at h1<;>cases h1
   subst H
   obtain⟨v',w',loc',C,B,E⟩:=Aj h hl
   exact val (by simp only [execOp,j,Option.map_none]) C B E
 ·rcases h1:s.opd x with _|v1
  ·simp only [h1]at hl;exact fE s.boxes hl
  rcases C:s.opd y with _|v2
  ·simp only [h1,C]at hl;exact fE s.boxes hl
  simp only [h1,C]at hl
  obtain⟨v',w',loc',B,E,Q⟩:=yI h hl (h.opd h1) (h.opd C)
  exact val (by simp only [execOp,j]) B E Q
 ·rcases h1:s.opd x with _|v1
  ·simp only [h1]at hl;exact fE s.boxes hl
  rcases C:rH s lo with _|v2
  ·simp only [h1,C]at hl;exact fE s.boxes hl
  rcases B:rH s hi with _|v3
  ·simp only [h1,C,B]at hl;exact fE s.boxes hl
  rcases E:rH s mx with _|v4
  ·simp only [h1,C,B,E]at hl;exact fE s.boxes hl
  simp only [h1,C,B,E]at hl
  split at hl
  ·obtain⟨v',S',loc',Q,h6,h7⟩:=BZ h hl (h.opd h1) (ug h C) (ug h B) (ug h E)
   exact val (S':=S') (loc':=loc') (by simp only [execOp,j]) Q h6 h7
  ·obtain⟨v',S',loc',Q,h6,h7⟩:=Bo h hl (h.opd h1) (ug h C) (ug h B) (ug h E)
   exact val (S':=S') (loc':=loc') (by simp only [execOp,j]) Q h6 h7
 ·rcases h1:s.opd x with _|v1
  ·simp only [h1]at hl;exact fE s.boxes hl
  simp only [h1]at hl
  obtain⟨v',C,B,rfl⟩:=yz h hl (h.opd h1)
  exact val (S':=S) (loc':=loc) (by simp only [execOp,j]) C h B
 ·rcases h1:s.opd x with _|v1
  ·simp only [h1]at hl;exact fE s.boxes hl
  simp only [h1]at hl
  obtain⟨v',C,B,rfl⟩:=A9 (P:=P) (w:=w) hl (h.opd h1)
  exact val (S':=S) (loc':=loc) (by simp only [execOp,j]) C h B
 ·rcases h1:s.opd x with _|v1
  ·simp only [h1]at hl;exact fE s.boxes hl
  rcases C:s.opd y with _|v2
  ·simp only [h1,C]at hl;exact fE s.boxes hl
  simp only [h1,C]at hl
  obtain⟨v',B,E,rfl⟩:=yD h hl (h.opd h1) (h.opd C)
  exact val (S':=S) (loc':=loc) (by simp only [execOp,j]) B h E
 ·rcases h1:s.opd x with _|v1
  ·simp only [h1]at hl;exact fE s.boxes hl
  rcases C:s.opd y with _|v2
  ·simp only [h1,C]at hl;exact fE s.boxes hl
  simp only [h1,C]at hl
  obtain⟨v',B,E,rfl⟩:=Bf (P:=P) (w:=w) hl (h.opd h1) (h.opd C)
  exact val (S':=S) (loc':=loc) (by simp only [execOp,j]) B h E
 ·rcases h1:s.opd x with _|v1
  ·simp only [h1]at hl;exact fE s.boxes hl
  rcases C:s.opd y with _|v2
  ·simp only [h1,C]at hl;exact fE s.boxes hl
  simp only [h1,C]at hl
  obtain⟨v',B,E,rfl⟩:=AH h hl (h.opd h1) (h.opd C)
  exact val (S':=S) (loc':=loc) (by simp only [execOp,j]) B h E
 ·rcases h1:s.opd x with _|v1
  ·simp only [h1]at hl;exact fE s.boxes hl
  rcases C:s.opd y with _|v2
  ·simp only [h1,C]at hl;exact fE s.boxes hl
  rcases B:s.opd c with _|v3
  ·simp only [h1,C,B]at hl;exact fE s.boxes hl
  simp only [h1,C,B]at hl
  obtain⟨w',S',loc',E,Q,rfl⟩:=AI h hl (h.opd h1) (h.opd C) (h.opd B)
  exact wa.skip T D (w':=w') (by simp [execOp,j,E]) Q
 ·rcases h1:s.opd x with _|v1
  ·simp only [h1]at hl;exact fE s.boxes hl
  simp only [h1]at hl
  obtain⟨v',B,E,rfl⟩:=AF (w:=w) (xt:=t) hl (h.opd h1)
  exact val (S':=S) (loc':=loc) (by simp only [execOp,j]) B h E
 ·rcases h1:s.opd x with _|v1
  ·simp only [h1]at hl;exact fE s.boxes hl
  rw [h1]at hl
  rcases v1 with p|_|_|_|_|vs|_|_|_|_|_|_|_<;>first|exact fE s.boxes hl|skip
  rcases C:vs[i]? with _|v2
  ·simp only [C]at hl;exact fE s.boxes hl
  simp only [C]at hl
  obtain⟨B, -, -⟩:=rp hl
  cases B
  have W:=h.opd h1
  generalize H:a.eval x=vx at W
  cases W with
  |tup _ ws hlen hc=>
   have b5:i<ws.size:=by rw [hlen];exact(List.getElem?_eq_some_iff.1 C).1
   have hw:=Array.getElem?_eq_getElem b5
   refine val (S':=S) (loc':=loc) (v':=ws[i]) (w':=w) (m:=Instr.extract (.tuple ws) i) (by simp only [execOp,j,H]) ?_ h (hc i v _ C hw)
   simp [Instr.extract,hw]
 ·obtain⟨callee,args,argTypes⟩:=c
  simp only at hl
  rcases C:tE s args.toList with _|l
  ·rw [C]at hl;cases callee with
   |value f=>exact fE s.boxes hl
   |invoke r m=>exact fE s.boxes hl
   |builtin b=>cases b<;>exact fE s.boxes hl
  rw [C]at hl
  obtain⟨g1,g2⟩:=yK h C
  cases callee with
  |invoke rc m=>
   rcases B:s.opd rc with _|v1
   ·simp only [B]at hl;exact fE s.boxes hl
   simp only [B]at hl
   have W:=h.opd B
   obtain⟨t,c,f,rfl,a9⟩:=Bh hl
   generalize b0:a.eval rc=vrc at W
   cases W with
   |ifc _ _ vc hc=>
    have U:l.length=args.size:=by simpa using g1
    have F:∀(v0:RV)(w0:Value),R S loc v0 w0->∀(i:Nat)x y,(v0::l)[i]? =some x->(#[w0]++args.map a.eval)[i]? =some y->R S loc x y:=fun v0 w0 h0 i x y H J=>by
     cases i with
     |zero=>
      simp only [DS,DB]at H
      rw [Ej zc]at J
      simp at J
      subst H J
      exact h0
     |succ i=>
      rw [DR]at H
      rw [Ek zc]at J
      exact g2 i x y H (by simpa using J)
    have e1:(#[Value.iface t vc]++El a.eval args)[0]? =some (.iface t vc):=by rw [Ej zc];rfl
    have e2:(El a.eval args).extract 0 args.size=El a.eval args:=by
     apply Ei
     simp only [Array.toList_extract,Em,List.extract_eq_take_drop,List.drop_zero,Nat.sub_zero]
     exact List.take_of_length_le zc
    rcases a9 with⟨hm,Y⟩|⟨e,v0,u0,r1,r2,hm,b4,Y⟩
    ·refine uN L h T D Y (vs:= #[vc]++args.map a.eval) (by simp [U];omega) (F c vc hc) ?_
     rw [<-wX hm (v':=vc) rfl (args.map a.eval)]
     simp [execOp,j,resolve,b0,invoke,e1,e2]
    ·obtain⟨v1,a5,b6, -⟩:=w7 h b4 hc
     refine uN L h T D Y (vs:= #[v1]++args.map a.eval) (by simp [U];omega) (F v0 v1 b6) ?_
     rw [<-wX hm (v':=v1) a5 (args.map a.eval)]
     simp [execOp,j,resolve,b0,invoke,e1,e2]
  |value f=>
   rcases B:s.opd f with _|v1
   ·simp only [B]at hl;exact fE s.boxes hl
   simp only [B]at hl
   rcases v1 with p|_|_|_|_|_|_|_|_|_|_|⟨g,cs⟩|_<;>first|exact fE s.boxes hl|skip
   rotate_left
   ·have W:=h.opd B
    generalize b3:a.eval f=vf at W
    cases W with
    |clo _ _ caps b2 b1=>
     have U:l.length=args.size:=by simpa using g1
     refine uN L h T D hl (vs:=args.map a.eval++caps) (by simp [U,b2]) (fun i x y H J=>?_) ?_
     ·by_cases hi:i<l.length
      ·rw [List.getElem?_append_left hi]at H
       rw [Ej so]at J
       exact g2 i x y H (by simpa using J)
      ·rw [List.getElem?_append_right za]at H
       rw [Ek so]at J
       have e:(args.map a.eval).size=l.length:=by simp [U]
       rw [e]at J
       exact b1 _ x y H J
     ·simp only [execOp,j,resolve,b3,Dy,Deferred.ofValue,EA,D9,invoke]
      simp
   cases p<;>first|exact fE s.boxes hl|skip
   rename_i fv
   have hf:=(h.opd B).raw_inv
   cases fv<;>first|exact fE s.boxes hl|skip
   rename_i fn first captured
   cases fn<;>first|exact fE s.boxes hl|skip
   rename_i g
   obtain⟨fl⟩:=first
   obtain⟨cl⟩:=captured
   rcases fl with _|⟨f0,_|⟨f1,fl⟩⟩
   rotate_left
   ·cases f0<;>first|exact fE s.boxes hl|skip
    rename_i fa
    obtain⟨fa⟩:=fa
    cases fa<;>first|exact fE s.boxes hl|skip
    cases cl<;>first|exact fE s.boxes hl|skip
    have U:l.length=args.size:=by simpa using g1
    refine uN L h T D hl (vs:= #[.agg #[]]++args.map a.eval) (by simp [U];omega) (fun i x y H J=>?_) ?_
    ·cases i with
     |zero=>
      simp only [DS,DB]at H
      rw [Ej zc]at J
      simp at J
      subst H J
      exact .d (.agg [] #[] rfl (fun i p v hp=>by simp at hp))
     |succ i=>
      rw [DR]at H
      rw [Ek zc]at J
      exact g2 i x y H (by simpa using J)
    ·simp only [execOp,j,resolve,hf,Dy,Deferred.ofValue,EA,D9,invoke]
     simp
   ·cases f0<;>first|exact fE s.boxes hl|skip
    all_goals (try(exact fE s.boxes hl))
    all_goals (rename_i fa;obtain⟨fa⟩:=fa;cases fa<;>exact fE s.boxes hl)
   cases cl<;>first|exact fE s.boxes hl|skip
   refine uN L h T D hl (vs:=args.map a.eval) (by simpa using g1) (fun i x y H J=>g2 i x y H (by simpa using J)) ?_
   simp only [execOp,j,resolve,hf,Dy,Deferred.ofValue,EA,D9,invoke]
   simp
  |builtin b=>
   cases b<;>first|exact fE s.boxes hl|skip
   case append=>
    rcases l with _|⟨x,_|⟨y,_|⟨z,l⟩⟩⟩<;>first|exact fE s.boxes hl|skip
    by_cases I:argTypes.size=2
    rotate_left
    ·simp only [I,if_false]at hl;exact fE s.boxes hl
    simp only [I,if_true]at hl
    obtain⟨K,y',F⟩:∃K y',args.toList=[K,y']:=by
     rcases hq:args.toList with _|⟨p,_|⟨q,_|⟨z,l⟩⟩⟩<;>simp [hq]at g1
     exact⟨p,q,rfl⟩
    have G:args= #[K,y']:=by apply Ei;exact F
    subst G
    obtain⟨t1,t2,O⟩:∃t1 t2,argTypes= #[t1,t2]:=by
     obtain⟨l⟩:=argTypes
     rcases l with _|⟨p,_|⟨q,_|⟨z,l⟩⟩⟩<;>simp at I
     exact⟨p,q,rfl⟩
    subst O
    have H:=g2 0 x (a.eval K) rfl rfl
    have J:=g2 1 y (a.eval y') rfl rfl
    by_cases a6:t1=t2
    rotate_left
    ·have Y:yT P (o.dst.getD 0*16) t1 t2 x y s.boxes=some ((v,u),r,true):=by
      rw [if_neg (show ¬(#[t1,t2]:Array TypeId).getD 0 0=(#[t1,t2]:Array TypeId).getD 1 0 from a6)]at hl
      exact hl
     obtain⟨v',w',loc',B,E,Q⟩:=Bw (ty:=o.type) h Y H J
     refine wa.value T D (v':=v') (w':=w') ?_ E Q
     simp only [execOp,j,resolve,Dy,EA,D9,invoke,builtin,Ef,Ed,Ee]
     have N:(Builtin.append_ #[t1,t2] o.type #[a.eval K,a.eval y']).run P w= .ok v' w':=B
     rw [N]
     rfl
    rw [if_pos (show(#[t1,t2]:Array TypeId).getD 0 0=(#[t1,t2]:Array TypeId).getD 1 0 from a6)]at hl
    replace hl:sy P (o.dst.getD 0*16) t1 t2 x y s.boxes=some ((v,u),r,true):=hl
    obtain⟨O,v',w',S',loc',B,E,Q⟩:=AE (ty:=o.type) h hl H J
    subst O
    refine wa.value T D (v':=v') (w':=w') ?_ E Q
    simp only [execOp,j,resolve,Dy,EA,D9,invoke,builtin,Ef,Ed,Ee]
    have N:(Builtin.append_ #[t1,t1] o.type #[a.eval K,a.eval y']).run P w= .ok v' w':=B
    rw [N]
    rfl
   case clear=>
    rcases l with _|⟨x,_|⟨y,l⟩⟩<;>first|exact fE s.boxes hl|skip
    obtain⟨K,F⟩:∃K,args.toList=[K]:=by
     rcases hq:args.toList with _|⟨p,_|⟨q,l⟩⟩<;>simp [hq]at g1
     exact⟨p,rfl⟩
    have G:args= #[K]:=by apply Ei;exact F
    subst G
    have H:=g2 0 x (a.eval K) rfl rfl
    by_cases I:argTypes.size=1
    rotate_left
    ·simp only [I,if_false]at hl;exact fE s.boxes hl
    simp only [I,if_true]at hl
    obtain⟨t1,O⟩:∃t1,argTypes= #[t1]:=by
     obtain⟨l⟩:=argTypes
     rcases l with _|⟨p,_|⟨q,l⟩⟩<;>simp at I
     exact⟨p,rfl⟩
    subst O
    replace hl:vM P t1 x s.boxes=some ((v,u),r,true):=hl
    obtain⟨v',w',S',loc',B,E,Q⟩:=A7 (ty:=o.type) h hl H
    refine wa.value T D (v':=v') (w':=w') ?_ E Q
    simp only [execOp,j,resolve,Dy,EA,D9,invoke,builtin,Ef,Ed,Ee]
    have N:(Builtin.clear_ #[t1] o.type #[a.eval K]).run P w= .ok v' w':=B
    rw [N]
    rfl
   case min=>
    obtain⟨v',B,E,rfl⟩:=CB (P:=P) (w:=w) (ts:=argTypes) (ty:=o.type) (vs:=args.map a.eval) hl (by simpa using g1) (fun i x y H J=>g2 i x y H (by simpa using J))
    refine wa.value T D (v':=v') (w':=w) ?_ h E
    simp only [execOp,j,resolve,Dy,EA,D9,invoke,builtin]
    rw [B]
    rfl
   case max=>
    obtain⟨v',B,E,rfl⟩:=CA (P:=P) (w:=w) (ts:=argTypes) (ty:=o.type) (vs:=args.map a.eval) hl (by simpa using g1) (fun i x y H J=>g2 i x y H (by simpa using J))
    refine wa.value T D (v':=v') (w':=w) ?_ h E
    simp only [execOp,j,resolve,Dy,EA,D9,invoke,builtin]
    rw [B]
    rfl
   case cap=>
    rcases l with _|⟨x,_|⟨y,l⟩⟩<;>first|exact fE s.boxes hl|skip
    obtain⟨K,F⟩:∃K,args.toList=[K]:=by
     rcases hq:args.toList with _|⟨p,_|⟨q,l⟩⟩<;>simp [hq]at g1
     exact⟨p,rfl⟩
    have G:args= #[K]:=by apply Ei;exact F
    subst G
    have H:=g2 0 x (a.eval K) rfl rfl
    by_cases I:argTypes.size=1
    rotate_left
    ·simp only [I,if_false]at hl;exact fE s.boxes hl
    simp only [I,if_true]at hl
    obtain⟨t1,O⟩:∃t1,argTypes= #[t1]:=by
     obtain⟨l⟩:=argTypes
     rcases l with _|⟨p,_|⟨q,l⟩⟩<;>simp at I
     exact⟨p,rfl⟩
    subst O
    obtain⟨v',B,E,rfl⟩:=Cg (ty:=o.type) h hl H
    refine wa.value T D (v':=v') (w':=w) ?_ h E
    simp only [execOp,j,resolve,Dy,EA,D9,invoke,builtin,Ef,Ed,Ee]
    have N:(Builtin.cap_ #[t1] o.type #[a.eval K]).run P w= .ok v' w:=B
    rw [N]
    rfl
   case len=>
    rcases l with _|⟨x,_|⟨y,l⟩⟩<;>first|exact fE s.boxes hl|skip
    obtain⟨K,F⟩:∃K,args.toList=[K]:=by
     rcases hq:args.toList with _|⟨p,_|⟨q,l⟩⟩<;>simp [hq]at g1
     exact⟨p,rfl⟩
    have G:args= #[K]:=by apply Ei;exact F
    subst G
    have H:=g2 0 x (a.eval K) rfl rfl
    by_cases I:argTypes.size=1
    rotate_left
    ·simp only [I,if_false]at hl;exact fE s.boxes hl
    simp only [I,if_true]at hl
    obtain⟨t1,O⟩:∃t1,argTypes= #[t1]:=by
     obtain⟨l⟩:=argTypes
     rcases l with _|⟨p,_|⟨q,l⟩⟩<;>simp at I
     exact⟨p,rfl⟩
    subst O
    obtain⟨v',B,E,rfl⟩:=Cx (ty:=o.type) h hl H
    refine wa.value T D (v':=v') (w':=w) ?_ h E
    simp only [execOp,j,resolve,Dy,EA,D9,invoke,builtin,Ef,Ed,Ee]
    have N:(Builtin.len_ #[t1] o.type #[a.eval K]).run P w= .ok v' w:=B
    rw [N]
    rfl
end
end Go.Dw
