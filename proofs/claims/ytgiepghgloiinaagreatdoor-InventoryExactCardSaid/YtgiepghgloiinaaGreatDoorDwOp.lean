
import Derived.Test.YtgiepghgloiinaaGreatDoorDwIfc
import Derived.Test.YtgiepghgloiinaaGreatDoorDwEq
import Derived.Lib.ConvBytes
import Derived.Laws.IdiomStrings
import Derived.Laws.BytesArg
set_option linter.unusedVariables false
set_option linter.unusedSimpArgs false
open Option.some renaming injEq->AD
open List renaming getD->Ag, getElem?_cons_succ->AT, getElem?_cons_zero->AU, getElem?_map->Av, length_map->B7, map_cons->Bj, map_nil->Bk, map_toArray->Bl, mem_of_getElem?->A1
open Prod.mk renaming injEq->AF
open Go.Sem renaming run_bind->Ap, run_pure->Ar
open Nat renaming add_zero->A7, mul_one->Bm
open Array renaming eq_empty_of_size_eq_zero->Bn, ext'->Bo, getElem?_append_left->Bp, getElem?_append_right->Bq, map->Br, toList_map->Bs
open Go.Result renaming andThen_ok->Af

namespace Go.Dw
section
variable {P:Program}{X:Ctx}{S:kd}{loc:kH}{s:St}{w:World}{a:Act}
theorem qY(h:Sim P X S loc s a.tmps w):∀{xs:List Operand}{l:List RV},lN s xs=some l->l.length=xs.length∧∀(i:Nat)x v,l[i]? =some x->(xs.map a.eval)[i]? =some v->R S loc x v
 | [],l,hl=>by
  simp only [lN,AD]at hl
  subst hl
  exact⟨rfl,fun i x v e=>by simp at e⟩
 |x::xs,l,hl=>by
  simp only [lN]at hl
  rcases h1:s.opd x with _|v
  ·simp [h1]at hl
  rcases c:lN s xs with _|r
  ·simp [h1,c]at hl
  simp only [h1,c,AD]at hl
  subst hl
  obtain⟨g1,g2⟩:=qY h c
  refine⟨by simp [g1],fun i y u b hu=>?_⟩
  cases i with
  |zero=>
   simp only [AU,AD,Bj]at b hu
   subst b;subst hu
   exact h.opd h1
  |succ i=>simp only [AT,Bj]at b hu;exact g2 i y u b hu
theorem nZ(h:Sim P X S loc s a.tmps w):∀{xs:List (Nat×Operand)}{l:List (Nat×RV)},lH s xs=some l->tT S loc l (xs.map fun(i,x)=>(i,a.eval x))
 | [],l,hl=>by
  simp only [lH,AD]at hl
  subst hl
  exact⟨rfl,fun i x v e=>by simp at e⟩
 |(k,x)::xs,l,hl=>by
  simp only [lH]at hl
  rcases h1:s.opd x with _|v
  ·simp [h1]at hl
  rcases c:lH s xs with _|r
  ·simp [h1,c]at hl
  simp only [h1,c,AD]at hl
  subst hl
  obtain⟨g1,g2⟩:=nZ h c
  refine⟨by simpa using g1,fun i y u b hu=>?_⟩
  cases i with
  |zero=>
   simp only [AU,AD,Bj]at b hu
   subst b;subst hu
   exact⟨rfl,h.opd h1⟩
  |succ i=>simp only [AT,Bj]at b hu;exact g2 i y u b hu
theorem mn(h:Sim P X S loc s a.tmps w){x:Option Operand}{v:Option RV}(b:kR s x=some v):RO S loc v (x.map a.eval):=by
 cases x with
 |none=>simp only [kR,AD]at b;subst b;exact .none
 |some x=>
  simp only [kR]at b
  rcases h1:s.opd x with _|r
  ·simp [h1]at b
  simp only [h1,AD]at b
  subst b
  exact .some (h.opd h1)
theorem vG{src dst:TypeId}{x:RV}{p:PD}{v:Value}(h:convD P src dst x=some (p,true))(c:R S loc x v):∃v',(convert src dst v).run P w= .ok v' w∧V S p v':=by
 unfold convD at h
 rcases h1:P.underlying src with _|d1
 ·simp [h1]at h
 rcases b:P.underlying dst with _|d2
 ·cases d1<;>simp [h1,b]at h
 cases d1<;>cases d2<;>first|(simp [h1,b]at h;done)|skip
 all_goals (rcases x with e|_|_|_|_|_|_|_|_|_|_|_|_<;>first|(simp [h1,b]at h;done)|skip)
 all_goals (cases e<;>first|(simp [h1,b]at h;done)|skip)
 ·simp only [h1,b,AD,AF,and_true]at h
  subst h
  have:=c.kG
  subst this
  exact⟨_,by simp [convert,run_underlying h1,run_underlying b,Conv.intToInt],.int _ _⟩
 ·simp only [h1,b,AD,AF,and_true]at h
  subst h
  have:=c.oJ
  subst this
  exact⟨_,by simp [convert,run_underlying h1,run_underlying b],.str _⟩
theorem wF(w:World)(e:TypeId)(b:ByteArray):Step none w (Lib.bytesWorld w e b):=
 ⟨rfl,rfl,rfl,by rw [Lib.bytesWorld_size];omega,fun j c _=>Lib.bytesWorld_at_old w e b j c,Nat.le_succ _⟩
theorem vD(P:Program)(id:Nat)(src dst:TypeId)(x:RV):(∃e str,P.underlying src=some .string∧P.underlying dst=some (.slice e)∧x= .d (.str str))∨(∃e i ver,P.underlying src=some (.slice e)∧P.underlying dst=some .string∧x= .ref i ver)∨(∃e es,P.underlying src=some (.slice e)∧P.underlying dst=some .string∧x= .d (.lst es))∨
  oO P id src dst x=oR (convD P src dst x):=by
 unfold oO
 split
 ·exact .inl ⟨_,_,by assumption,by assumption,rfl⟩
 ·exact .inr (.inl ⟨_,_,_,by assumption,by assumption,rfl⟩)
 ·exact .inr (.inr (.inl ⟨_,_,by assumption,by assumption,rfl⟩))
 ·exact .inr (.inr (.inr rfl))
theorem wJ(h:Sim P X S loc s a.tmps w){src dst e:TypeId}{g:List Int}{p:Value}(m:P.underlying src=some (.slice e))(he:P.underlying e=some (.int .u8))(hd:P.underlying dst=some .string)(n:V S (.lst (g.map (.int .u8))) p):
  (convert src dst p).run P w= .ok (.string ⟨(strU g).toArray⟩) w:=by
 generalize j:g.map (PD.int .u8)=es at n
 cases n with
 |nil a c=>
  obtain rfl:=List.map_eq_nil_iff.1 j
  rw [run_convert_bytes_string w src dst e a 0 c m he hd]
  cases a<;>simp [Conv.bytesToString,loadCells,loadCellsFrom,strU,Ar]<;>rfl
 |lst _ b o c sz f hc hsz hS hV=>
  subst j
  rw [B7]
  refine run_convert_bytes_arg w src e m he b o g.length c g rfl (fun i hi=>?_) dst hd
  have h1:(g.map (PD.int .u8))[i]? =some (.int .u8 g[i]):=by simp [hi]
  have q:sz=1:=by rw [<-hsz _ (A1 h1)];rfl
  subst q
  have k:=h.imm _ _ (hS i _ 0 _ h1 rfl)
  have l:=(hV i _ 0 _ h1 rfl)
  rw [Bm,A7]at k
  rw [k]
  generalize f i 0=u at l
  cases l
  simp [Ag,hi]
theorem conv_row(h:Sim P X S loc s a.tmps w){src dst e t:TypeId}{i ver:Nat}{b:List Int}{r:Value}(q:P.underlying src=some (.slice e))(he:P.underlying e=some (.int .u8))(hd:P.underlying dst=some .string)
  (hb:s.boxes i=some (.arr ver t (b.map (.int .u8)))) (x:R S loc (.ref i ver) r):
  (convert src dst r).run P w= .ok (.string ⟨(strU b).toArray⟩) w:=by
 obtain⟨sz,xs,p,hsz,how,hf⟩:=h.nX hb x
 by_cases k:b=[]
 ·subst k
  obtain⟨l,c,rfl,_⟩:=how.hdr
  rw [Bk,List.length_nil,run_convert_bytes_string w src dst e l 0 c q he hd]
  cases l<;>simp [Conv.bytesToString,loadCells,loadCellsFrom,strU,Ar]<;>rfl
 ·have f:0<b.length:=by cases b with|nil=>exact(k rfl).elim|cons=>simp
  have how:=how.nm (by simpa using f)
  obtain⟨g,c,rfl⟩:=mm how (by simpa using f)
  rw [B7]
  refine run_convert_bytes_arg w src e q he g 0 b.length c b rfl (fun j o=>?_) dst hd
  have h1:(b.map (PD.int .u8))[j]? =some (.int .u8 b[j]):=by simp [o]
  have y:sz=1:=by rw [<-hf.len _ (A1 h1)];rfl
  subst y
  obtain⟨u,m,v⟩:=hf.cell j _ 0 _ h1 rfl
  rw [Bm,A7]at m
  have n:=how.cells (g:=g) rfl j u m
  rw [kS]at n
  rw [n]
  cases v
  simp [Ag,o]
theorem vF(h:Sim P X S loc s a.tmps w){id:Nat}{src dst:TypeId}{x v:RV}{u:Ups}{r:List Nat}{I:Value}(hl:oO P id src dst x s.boxes=some ((v,u),r,true))(G:R S loc x I):
  ∃v' w' loc',(convert src dst I).run P w= .ok v' w'∧Sim P X S loc' (s.ups u) a.tmps w'∧R S loc' v v':=by
 rcases vD P id src dst x with⟨e,str,n,hd,rfl⟩|⟨e,i,ver,n,hd,rfl⟩|⟨e,es,n,hd,rfl⟩|hc
 ·unfold oO at hl
  simp only [n,hd]at hl
  by_cases he:P.underlying e=some (.int .u8)
  ·simp only [he]at hl
   obtain⟨_,U,W,h1,f,_⟩:=M.bind_some hl
   obtain⟨hb,_,_⟩:=M.kQ h1
   obtain⟨o, -,hc⟩:=M.j0 f
   cases o
   have K:=G.oJ
   subst K
   obtain⟨Q,hlen⟩:=of_decide_eq_true hc.symm
   have hsz:ByteArray.size ⟨str.toArray⟩=str.length:=by simp [ByteArray.size]
   have B:=grownCap_ge w (ByteArray.size ⟨str.toArray⟩) 0 e
   have l:=grownCap_le_maxLen w (ByteArray.size ⟨str.toArray⟩) 0 e (by rw [hsz];simp only [maxLen];omega)
   have m:=Lib.run_convert_string_bytes (P:=P) w src dst e ⟨str.toArray⟩ n hd he
   have C:=Lib.bytesWorld_at_new w e ⟨str.toArray⟩
   rw [hsz]at B l m
   have z:(Lib.bytesCells w e ⟨str.toArray⟩).size=grownCap w str.length 0 e:=by
    simp only [Lib.bytesCells,Array.size_append,Array.size_map,Array.size_replicate,hsz]
    simp;omega
   obtain⟨loc',h1,f,_⟩:=h.pb (P:=P) (w':=Lib.bytesWorld w e ⟨str.toArray⟩) (es:=str.map fun b=>.int .u8 b.toNat) (xs:=str.map fun b=>.int .u8 b.toNat) hb (wF w e _) Q
    (hdr:= .slice (some ⟨w.heap.size,0,none⟩) str.length (grownCap w str.length 0 e))
    (.inl ⟨sm, .inr ⟨w.heap.size, _, _, _, sm, .inr ⟨z, rfl⟩, C, by simpa using B, l, by simpa using z, by
     simp only [Lib.bytesCells,B7,Bm,Array.toList_append,Bs]
     exact List.take_left' sm⟩⟩)
    ⟨by simp [PD.cells], by simp; intro a _; rfl, fun i y j x hi H => by
     rw [Av,Option.map_eq_some_iff]at hi
     obtain⟨b,hb,rfl⟩:=hi
     cases j with
     |succ j=>simp [PD.cells]at H
     |zero=>
      simp only [PD.cells,AU,AD]at H
      subst H
      exact⟨_,by rw [Bm,A7,Av,hb];rfl,.int _ _⟩⟩
    (fun g E => by
     unfold ku at E
     split at E
     ·rename_i h1
      simp only [Value.slice.injEq,AD]at h1
      obtain⟨h1, -⟩:=h1
      subst h1
      cases E
      exact Nat.le_refl _
     ·cases E) rfl
   exact⟨_,_,loc',m,h1,f⟩
  ·rcases c:P.underlying e with _|q
   ·simp only [c]at hl;exact fE s.boxes hl
   ·cases q<;>first|(simp only [c]at hl;exact fE s.boxes hl)|skip
    rename_i k
    cases k<;>first|exact(he c).elim|(simp only [c]at hl;exact fE s.boxes hl)
 ·unfold oO at hl
  simp only [n,hd]at hl
  by_cases he:P.underlying e=some (.int .u8)
  ·simp only [he]at hl
   obtain⟨J,U,W,h1,f,_⟩:=M.bind_some hl
   obtain⟨hb,_,_⟩:=M.get_some h1
   cases J<;>first|exact fE s.boxes f|skip
   rename_i D Y es
   by_cases F:ver=D
   rotate_left
   ·simp only [F,if_false]at f;exact fE s.boxes f
   subst F
   simp only [if_true]at f
   rcases t:u8s es with _|T
   ·simp only [t]at f;exact fE s.boxes f
   simp only [t]at f
   obtain⟨o, -, -⟩:=kc f
   cases o
   obtain rfl:=tH t
   exact⟨_,w,loc,conv_row h n he hd hb G,h,.d (.str _)⟩
  ·rcases c:P.underlying e with _|q
   ·simp only [c]at hl;exact fE s.boxes hl
   ·cases q<;>first|(simp only [c]at hl;exact fE s.boxes hl)|skip
    rename_i k
    cases k<;>first|exact(he c).elim|(simp only [c]at hl;exact fE s.boxes hl)
 ·unfold oO at hl
  simp only [n,hd]at hl
  by_cases he:P.underlying e=some (.int .u8)
  ·simp only [he]at hl
   rcases t:u8s es with _|T
   ·simp only [t]at hl;exact fE s.boxes hl
   simp only [t]at hl
   obtain⟨o, -, -⟩:=kc hl
   cases o
   obtain rfl:=tH t
   cases G with
   |d F=>exact⟨_,w,loc,wJ h n he hd F,h,.d (.str _)⟩
  ·rcases c:P.underlying e with _|q
   ·simp only [c]at hl;exact fE s.boxes hl
   ·cases q<;>first|(simp only [c]at hl;exact fE s.boxes hl)|skip
    rename_i k
    cases k<;>first|exact(he c).elim|(simp only [c]at hl;exact fE s.boxes hl)
 ·rw [hc]at hl
  obtain⟨p,o,L, -⟩:=oD hl
  cases L
  obtain⟨v',N,O⟩:=vG (P:=P) (w:=w) o G
  exact⟨v',w,loc,N,h,.d O⟩
theorem wO{mt:Hf}{call:ko}(L:mj P X.base call){o:Oper}(hS:nW P X s a w)(D:∀d,o.dst=some d->d<X.nt){v:RV}{u:Ups}{r:List Nat}
  (hl:kF P mt call s o s.boxes=some ((v,u),r,true)):nV P X ((s.ups u).put o.dst v) o a w:=by
 obtain⟨hd,S,loc,h⟩:=hS
 have pure_:∀{v':Value},(execOp a.eval o).run P w= .ok (.value v') w->R S loc v v'->u=[]->nV P X ((s.ups u).put o.dst v) o a w:=by
  intro v' W Q hu
  subst hu
  exact nV.value hd D W h Q
 have val:∀{m:Sem Value}{v':Value}{w':World}{S':kd}{loc':kH},(execOp a.eval o)=(do pure (.value (<-m)))->m.run P w= .ok v' w'->Sim P X S' loc' (s.ups u) a.tmps w'->R S' loc' v v'->nV P X ((s.ups u).put o.dst v) o a w:=by
  intro m v' w' S' loc' he hm hs Q
  refine nV.value hd D (v':=v') (w':=w') ?_ hs Q
  rw [he]
  simp [hm]
 unfold kF at hl
 rcases n:o.op with x|x|⟨c,x,y⟩|t|⟨t,x⟩|⟨t,parts⟩|⟨t,len,parts⟩|⟨t,m,k,x⟩|⟨t,x⟩|⟨t,x,y⟩|g|g|x|⟨op,t,x,y,t2⟩|⟨op,t,x⟩|⟨t,t2,x⟩|⟨t,x⟩|⟨t,x⟩|⟨fn,x,y⟩|⟨t,x⟩|⟨t,x⟩|⟨t,x,y⟩|⟨t,x,lo,hi,mx⟩|⟨t,x,f⟩|⟨t,x,f⟩|⟨t,x,y⟩|⟨t,x,y⟩|⟨t,x,y,c⟩|⟨t,x,y,c⟩|⟨t,x,y⟩|⟨t,x,y,c⟩|⟨t,x⟩|⟨x,b⟩|x|⟨x,t,t2,b⟩|⟨x,i⟩|c|c|c|x|⟨x,y⟩|⟨t,x,b⟩|⟨cs,b⟩
 all_goals (simp only [n]at hl)
 all_goals first|exact fE s.boxes hl|skip
 ·rcases h1:s.opd x with _|v1
  ·simp only [h1]at hl;exact fE s.boxes hl
  simp only [h1]at hl
  obtain⟨B, -, -⟩:=kc hl
  cases B
  exact pure_ (by simp [execOp,n]) (h.opd h1) rfl
 ·rcases h1:s.opd x with _|v1
  ·simp only [h1]at hl;exact fE s.boxes hl
  simp only [h1]at hl
  obtain⟨B, -, -⟩:=kc hl
  cases B
  exact pure_ (by simp [execOp,n]) (h.opd h1) rfl
 ·rcases h1:s.opd c with _|v1
  ·simp only [h1]at hl;exact fE s.boxes hl
  rw [h1]at hl
  rcases v1 with p|_|_|_|_|_|_|_|_|_|_|_|_<;>first|exact fE s.boxes hl|skip
  cases p<;>first|exact fE s.boxes hl|skip
  rename_i b
  have hb:=(h.opd h1).mZ
  cases b
  ·rcases B:s.opd y with _|v2
   ·simp only [B,Bool.false_eq_true,if_false]at hl;exact fE s.boxes hl
   simp only [B,Bool.false_eq_true,if_false]at hl
   obtain⟨j, -, -⟩:=kc hl
   cases j
   exact pure_ (by simp [execOp,n,hb,asBool]) (h.opd B) rfl
  ·rcases B:s.opd x with _|v2
   ·simp only [B,if_true]at hl;exact fE s.boxes hl
   simp only [B,if_true]at hl
   obtain⟨j, -, -⟩:=kc hl
   cases j
   exact pure_ (by simp [execOp,n,hb,asBool]) (h.opd B) rfl
 ·obtain⟨v',w',loc',h1,B,j⟩:=uv h hl
  exact val (by simp only [execOp,n]) h1 B j
 ·rcases h1:s.opd x with _|v1
  ·simp only [h1]at hl;exact fE s.boxes hl
  simp only [h1]at hl
  obtain⟨v',w',loc',h1,B,j⟩:=wD (t:=t) h hl (h.opd h1)
  exact val (by simp only [execOp,n]) h1 B j
 ·rcases h1:lH s parts.toList with _|l
  ·simp only [h1]at hl;exact fE s.boxes hl
  simp only [h1]at hl
  have hp:=nZ h h1
  obtain⟨v',B,j,rfl⟩:=uA (P:=P) (w:=w) (pvs:=parts.map fun(i,x)=>(i,a.eval x)) hl (by simpa using hp)
  exact val (S':=S) (loc':=loc) (by simp only [execOp,n]) B h j
 ·rcases h1:lH s parts.toList with _|l
  ·simp only [h1]at hl;exact fE s.boxes hl
  simp only [h1]at hl
  have hp:=nZ h h1
  by_cases b1:mt.lit (o.dst.getD 0+1048576)=true
  ·rw [if_pos b1]at hl
   obtain⟨v',w',S',loc',B,j,C⟩:=wg (pvs:=parts.map fun(i,x)=>(i,a.eval x)) h hl (by simpa using hp)
   exact val (by simp only [execOp,n]) B j C
  rw [if_neg b1]at hl
  obtain⟨v',w',S',loc',B,j,C⟩:=qe (pvs:=parts.map fun(i,x)=>(i,a.eval x)) h hl (by simpa using hp)
  exact val (by simp only [execOp,n]) B j C
 ·rcases h1:s.opd x with _|v1
  ·simp only [h1]at hl;exact fE s.boxes hl
  simp only [h1]at hl
  obtain⟨v',B,j,rfl⟩:=o6 h hl (h.opd h1)
  exact val (S':=S) (loc':=loc) (by simp only [execOp,n]) B h j
 ·rcases h1:s.opd x with _|v1
  ·simp only [h1]at hl;exact fE s.boxes hl
  rcases B:s.opd y with _|v2
  ·simp only [h1,B]at hl;exact fE s.boxes hl
  simp only [h1,B]at hl
  obtain⟨w',S',loc',j,C,rfl⟩:=u9 h hl (h.opd h1) (h.opd B)
  exact nV.skip hd D (w':=w') (by simp [execOp,n,j]) C
 ·rcases h1:s.opd x with _|v1
  ·simp only [h1]at hl;exact fE s.boxes hl
  simp only [h1]at hl
  obtain⟨ad,he,B,rfl,_⟩:=pa h hl (h.opd h1)
  refine pure_ (v':= .pointer (some ad)) (by simp [execOp,n,he]) ?_ rfl
  rwa [Addr.add_zero']at B
 ·rcases h1:s.opd x with _|v1
  ·simp only [h1]at hl;exact fE s.boxes hl
  rcases B:s.opd y with _|v2
  ·simp only [h1,B]at hl;exact fE s.boxes hl
  simp only [h1,B]at hl
  obtain⟨p,j,C, -⟩:=oD hl
  cases C
  obtain⟨v',K,h6⟩:=wC (P:=P) (w:=w) t x y j (h.opd h1) (h.opd B)
  exact val (S':=S) (loc':=loc) (by simp only [execOp,n]) K h (.d h6)
 ·cases op with
  |not=>
   rcases h1:s.opd x with _|v1
   ·simp only [h1]at hl;exact fE s.boxes hl
   simp only [h1]at hl
   obtain⟨p,j,C, -⟩:=oD hl
   cases C
   rcases v1 with p'|_|_|_|_|_|_|_|_|_|_|_|_<;>first|(simp [notD]at j;done)|skip
   cases p'<;>first|(simp [notD]at j;done)|skip
   simp only [notD,AD,AF,and_true]at j
   subst j
   have hb:=(h.opd h1).mZ
   exact val (S':=S) (loc':=loc) (m:=Op.unary .not (a.eval x)) (by simp only [execOp,n]) (by rw [hb];rfl) h (.d (.bool _))
  |neg=>
   rcases h1:s.opd x with _|v1
   ·simp only [h1]at hl;exact fE s.boxes hl
   simp only [h1]at hl
   obtain⟨p,j,C, -⟩:=oD hl
   cases C
   rcases v1 with p'|_|_|_|_|_|_|_|_|_|_|_|_<;>first|(simp [negD]at j;done)|skip
   cases p'<;>first|(simp [negD]at j;done)|skip
   simp only [negD,AD,AF,and_true]at j
   subst j
   have hb:=(h.opd h1).kG
   exact val (S':=S) (loc':=loc) (m:=Op.unary .neg (a.eval x)) (by simp only [execOp,n]) (by rw [hb];rfl) h (.d (.int _ _))
  |xor=>exact fE s.boxes hl
  |plus=>exact fE s.boxes hl
 ·rcases h1:s.opd x with _|v1
  ·simp only [h1]at hl;exact fE s.boxes hl
  simp only [h1]at hl
  obtain⟨v',w',loc',K,h6,h7⟩:=vF h hl (h.opd h1)
  exact val (S':=S) (loc':=loc') (by simp only [execOp,n]) K h6 h7
 ·rcases h1:s.opd x with _|v1
  ·simp only [h1]at hl;exact fE s.boxes hl
  simp only [h1]at hl
  obtain⟨v',j,C,rfl⟩:=wR (w:=w) hl (h.opd h1)
  exact val (S':=S) (loc':=loc) (by simp only [execOp,n]) j h C
 ·rcases B:lN s y.toList with _|l
  ·simp only [B]at hl;exact fE s.boxes hl
  simp only [B]at hl
  obtain⟨fl⟩:=x
  cases fn<;>first|exact fE s.boxes hl|skip
  rename_i g
  obtain⟨g1,g2⟩:=qY h B
  rcases fl with _|⟨x0,_|⟨x1,fl⟩⟩<;>first|exact fE s.boxes hl|skip
  rotate_left
  ·simp only at hl
   rcases j:s.opd x0 with _|rv
   ·simp only [j]at hl;exact fE s.boxes hl
   rw [j]at hl
   rcases rv with p|_|_|_|_|_|_|_|_|_|_|_|_<;>first|exact fE s.boxes hl|skip
   cases p<;>first|exact fE s.boxes hl|skip
   rename_i cs
   cases cs<;>first|exact fE s.boxes hl|skip
   cases l<;>first|exact fE s.boxes hl|skip
   obtain⟨C, -, -⟩:=kc hl
   cases C
   have c3:a.eval x0= .agg #[]:=by
    have:=h.opd j
    generalize a.eval x0=q at this
    cases this with
    |d hh=>cases hh with
     |agg _ vs c2 _=>
      have hz:vs= #[]:=Bn (by simpa using c2)
      rw [hz]
   have H:y= #[]:=Bn (by simpa using g1.symm)
   subst H
   refine val (S':=S) (loc':=loc) (v':= .func (.func g) #[.agg #[]] #[]) (w':=w) (m:=Instr.makeFunc (.func g) #[.agg #[]] #[]) (by simp [execOp,n,c3]) rfl h (.d (.raw _ rfl))
  obtain⟨j, -, -⟩:=kc hl
  cases j
  refine val (S':=S) (loc':=loc) (v':= .func (.func g) #[] (y.map a.eval)) (w':=w) (m:=Instr.makeFunc (.func g) #[] (y.map a.eval)) (by simp only [execOp,n,Bl,Bk]) rfl h ?_
  exact .clo g l _ (by simpa using g1.symm) (fun i c u hc hu=>g2 i c u hc (by simpa using hu))
 ·rcases h1:kR s x with _|v1
  ·simp only [h1]at hl;exact fE s.boxes hl
  rw [h1]at hl
  cases v1 with
  |some _=>exact fE s.boxes hl
  |none=>
   simp only at hl
   have G:x=none:=by
    cases x with
    |none=>rfl
    |some y=>simp only [kR]at h1;split at h1<;>cases h1
   subst G
   by_cases a4:mt.lit (o.dst.getD 0)=true
   ·rw [if_pos a4]at hl
    obtain⟨v',w',loc',B,j,C⟩:=tg h hl
    exact val (by simp only [execOp,n,Option.map_none]) B j C
   rw [if_neg a4]at hl
   obtain⟨v',w',loc',B,j,C⟩:=tf h hl
   exact val (by simp only [execOp,n,Option.map_none]) B j C
 ·rcases h1:s.opd x with _|v1
  ·simp only [h1]at hl;exact fE s.boxes hl
  rcases B:s.opd y with _|v2
  ·simp only [h1,B]at hl;exact fE s.boxes hl
  simp only [h1,B]at hl
  obtain⟨v',w',loc',j,C,K⟩:=qW h hl (h.opd h1) (h.opd B)
  exact val (by simp only [execOp,n]) j C K
 ·rcases h1:s.opd x with _|v1
  ·simp only [h1]at hl;exact fE s.boxes hl
  rcases B:kR s lo with _|v2
  ·simp only [h1,B]at hl;exact fE s.boxes hl
  rcases j:kR s hi with _|v3
  ·simp only [h1,B,j]at hl;exact fE s.boxes hl
  rcases C:kR s mx with _|v4
  ·simp only [h1,B,j,C]at hl;exact fE s.boxes hl
  simp only [h1,B,j,C]at hl
  split at hl
  ·obtain⟨v',S',loc',K,h6,h7⟩:=wc h hl (h.opd h1) (mn h B) (mn h j) (mn h C)
   exact val (S':=S') (loc':=loc') (by simp only [execOp,n]) K h6 h7
  ·obtain⟨v',S',loc',K,h6,h7⟩:=uZ h hl (h.opd h1) (mn h B) (mn h j) (mn h C)
   exact val (S':=S') (loc':=loc') (by simp only [execOp,n]) K h6 h7
 ·rcases h1:s.opd x with _|v1
  ·simp only [h1]at hl;exact fE s.boxes hl
  simp only [h1]at hl
  obtain⟨v',B,j,rfl⟩:=qP h hl (h.opd h1)
  exact val (S':=S) (loc':=loc) (by simp only [execOp,n]) B h j
 ·rcases h1:s.opd x with _|v1
  ·simp only [h1]at hl;exact fE s.boxes hl
  simp only [h1]at hl
  obtain⟨v',B,j,rfl⟩:=uG (P:=P) (w:=w) hl (h.opd h1)
  exact val (S':=S) (loc':=loc) (by simp only [execOp,n]) B h j
 ·rcases h1:s.opd x with _|v1
  ·simp only [h1]at hl;exact fE s.boxes hl
  rcases B:s.opd y with _|v2
  ·simp only [h1,B]at hl;exact fE s.boxes hl
  simp only [h1,B]at hl
  obtain⟨v',j,C,rfl⟩:=qU h hl (h.opd h1) (h.opd B)
  exact val (S':=S) (loc':=loc) (by simp only [execOp,n]) j h C
 ·rcases h1:s.opd x with _|v1
  ·simp only [h1]at hl;exact fE s.boxes hl
  rcases B:s.opd y with _|v2
  ·simp only [h1,B]at hl;exact fE s.boxes hl
  simp only [h1,B]at hl
  obtain⟨v',j,C,rfl⟩:=uN (P:=P) (w:=w) hl (h.opd h1) (h.opd B)
  exact val (S':=S) (loc':=loc) (by simp only [execOp,n]) j h C
 ·rcases h1:s.opd x with _|v1
  ·simp only [h1]at hl;exact fE s.boxes hl
  rcases B:s.opd y with _|v2
  ·simp only [h1,B]at hl;exact fE s.boxes hl
  simp only [h1,B]at hl
  obtain⟨v',j,C,rfl⟩:=tP h hl (h.opd h1) (h.opd B)
  exact val (S':=S) (loc':=loc) (by simp only [execOp,n]) j h C
 ·rcases h1:s.opd x with _|v1
  ·simp only [h1]at hl;exact fE s.boxes hl
  rcases B:s.opd y with _|v2
  ·simp only [h1,B]at hl;exact fE s.boxes hl
  rcases j:s.opd c with _|v3
  ·simp only [h1,B,j]at hl;exact fE s.boxes hl
  simp only [h1,B,j]at hl
  obtain⟨w',S',loc',C,K,rfl⟩:=tQ h hl (h.opd h1) (h.opd B) (h.opd j)
  exact nV.skip hd D (w':=w') (by simp [execOp,n,C]) K
 ·rcases h1:s.opd x with _|v1
  ·simp only [h1]at hl;exact fE s.boxes hl
  rcases B:s.opd y with _|v2
  ·simp only [h1,B]at hl;exact fE s.boxes hl
  simp only [h1,B]at hl
  obtain⟨v',w',loc',j,C,K⟩:=sb h hl (h.opd h1) (h.opd B)
  exact val (by simp only [execOp,n]) j C K
 ·rcases h1:s.opd x with _|v1
  ·simp only [h1]at hl;exact fE s.boxes hl
  rcases B:s.opd y with _|v2
  ·simp only [h1,B]at hl;exact fE s.boxes hl
  rcases j:s.opd c with _|v3
  ·simp only [h1,B,j]at hl;exact fE s.boxes hl
  simp only [h1,B,j]at hl
  obtain⟨w',loc',C,K,rfl⟩:=qk (t:=t) h hl (h.opd h1) (h.opd B) (h.opd j)
  exact nV.skip hd D (w':=w') (by simp [execOp,n,C]) K
 ·rcases h1:s.opd x with _|v1
  ·simp only [h1]at hl;exact fE s.boxes hl
  simp only [h1]at hl
  obtain⟨v',j,C,rfl⟩:=tN (w:=w) (xt:=t) hl (h.opd h1)
  exact val (S':=S) (loc':=loc) (by simp only [execOp,n]) j h C
 ·rcases h1:s.opd x with _|v1
  ·simp only [h1]at hl;exact fE s.boxes hl
  rw [h1]at hl
  rcases v1 with p|_|_|_|_|vs|_|_|_|_|_|_|_<;>first|exact fE s.boxes hl|skip
  rcases B:vs[i]? with _|v2
  ·simp only [B]at hl;exact fE s.boxes hl
  simp only [B]at hl
  obtain⟨j, -, -⟩:=kc hl
  cases j
  have Q:=h.opd h1
  generalize G:a.eval x=vx at Q
  cases Q with
  |tup _ ws hlen hc=>
   have c0:i<ws.size:=by rw [hlen];exact(List.getElem?_eq_some_iff.1 B).1
   have hw:=Array.getElem?_eq_getElem c0
   refine val (S':=S) (loc':=loc) (v':=ws[i]) (w':=w) (m:=Instr.extract (.tuple ws) i) (by simp only [execOp,n,G]) ?_ h (hc i v _ B hw)
   simp [Instr.extract,hw]
 ·obtain⟨callee,args,argTypes⟩:=c
  simp only at hl
  rcases B:lN s args.toList with _|l
  ·rw [B]at hl;cases callee with
   |value f=>exact fE s.boxes hl
   |invoke r m=>exact fE s.boxes hl
   |builtin b=>cases b<;>exact fE s.boxes hl
  rw [B]at hl
  obtain⟨g1,g2⟩:=qY h B
  cases callee with
  |invoke rc m=>
   rcases j:s.opd rc with _|v1
   ·simp only [j]at hl;exact fE s.boxes hl
   simp only [j]at hl
   have Q:=h.opd j
   obtain⟨t,c,f,rfl,a9⟩:=uP hl
   generalize b0:a.eval rc=vrc at Q
   cases Q with
   |ifc _ _ vc hc=>
    have O:l.length=args.size:=by simpa using g1
    have E:∀(v0:RV)(w0:Value),R S loc v0 w0->∀(i:Nat)x y,(v0::l)[i]? =some x->(#[w0]++args.map a.eval)[i]? =some y->R S loc x y:=fun v0 w0 h0 i x y G H=>by
     cases i with
     |zero=>
      simp only [AU,AD]at G
      rw [Bp sm]at H
      simp at H
      subst G H
      exact h0
     |succ i=>
      rw [AT]at G
      rw [Bq sm]at H
      exact g2 i x y G (by simpa using H)
    have e1:(#[Value.iface t vc]++Br a.eval args)[0]? =some (.iface t vc):=by rw [Bp sm];rfl
    have e2:(Br a.eval args).extract 0 args.size=Br a.eval args:=by
     apply Bo
     simp only [Array.toList_extract,Bs,List.extract_eq_take_drop,List.drop_zero,Nat.sub_zero]
     exact List.take_of_length_le sm
    rcases a9 with⟨hm,U⟩|⟨e,v0,u0,r1,r2,hm,b5,U⟩
    ·refine na L h hd D U (vs:= #[vc]++args.map a.eval) (by simp [O];omega) (E c vc hc) ?_
     rw [<-o1 hm (v':=vc) rfl (args.map a.eval)]
     simp [execOp,n,resolve,b0,invoke,e1,e2]
    ·obtain⟨v1,W,c1, -⟩:=o6 h b5 hc
     refine na L h hd D U (vs:= #[v1]++args.map a.eval) (by simp [O];omega) (E v0 v1 c1) ?_
     rw [<-o1 hm (v':=v1) W (args.map a.eval)]
     simp [execOp,n,resolve,b0,invoke,e1,e2]
  |value f=>
   rcases j:s.opd f with _|v1
   ·simp only [j]at hl;exact fE s.boxes hl
   simp only [j]at hl
   rcases v1 with p|_|_|_|_|_|_|_|_|_|_|⟨g,cs⟩|_<;>first|exact fE s.boxes hl|skip
   rotate_left
   ·have Q:=h.opd j
    generalize b4:a.eval f=vf at Q
    cases Q with
    |clo _ _ caps b3 b2=>
     have O:l.length=args.size:=by simpa using g1
     refine na L h hd D hl (vs:=args.map a.eval++caps) (by simp [O,b3]) (fun i x y G H=>?_) ?_
     ·by_cases hi:i<l.length
      ·rw [List.getElem?_append_left hi]at G
       rw [Bp so]at H
       exact g2 i x y G (by simpa using H)
      ·rw [List.getElem?_append_right om]at G
       rw [Bq so]at H
       have e:(args.map a.eval).size=l.length:=by simp [O]
       rw [e]at H
       exact b2 _ x y G H
     ·simp only [execOp,n,resolve,b4,Ap,Deferred.ofValue,Ar,Af,invoke]
      simp
   cases p<;>first|exact fE s.boxes hl|skip
   rename_i fv
   have hf:=(h.opd j).raw_inv
   cases fv<;>first|exact fE s.boxes hl|skip
   rename_i fn first captured
   cases fn<;>first|exact fE s.boxes hl|skip
   rename_i g
   obtain⟨fl⟩:=first
   obtain⟨cl⟩:=captured
   rcases fl with _|⟨f0,_|⟨f1,fl⟩⟩
   rotate_left
   ·cases f0<;>first|exact fE s.boxes hl|skip
    rename_i fa
    obtain⟨fa⟩:=fa
    cases fa<;>first|exact fE s.boxes hl|skip
    cases cl<;>first|exact fE s.boxes hl|skip
    have O:l.length=args.size:=by simpa using g1
    refine na L h hd D hl (vs:= #[.agg #[]]++args.map a.eval) (by simp [O];omega) (fun i x y G H=>?_) ?_
    ·cases i with
     |zero=>
      simp only [AU,AD]at G
      rw [Bp sm]at H
      simp at H
      subst G H
      exact .d (.agg [] #[] rfl (fun i p v hp=>by simp at hp))
     |succ i=>
      rw [AT]at G
      rw [Bq sm]at H
      exact g2 i x y G (by simpa using H)
    ·simp only [execOp,n,resolve,hf,Ap,Deferred.ofValue,Ar,Af,invoke]
     simp
   ·cases f0<;>first|exact fE s.boxes hl|skip
    all_goals (try(exact fE s.boxes hl))
    all_goals (rename_i fa;obtain⟨fa⟩:=fa;cases fa<;>exact fE s.boxes hl)
   cases cl<;>first|exact fE s.boxes hl|skip
   refine na L h hd D hl (vs:=args.map a.eval) (by simpa using g1) (fun i x y G H=>g2 i x y G (by simpa using H)) ?_
   simp only [execOp,n,resolve,hf,Ap,Deferred.ofValue,Ar,Af,invoke]
   simp
  |builtin b=>
   cases b<;>first|exact fE s.boxes hl|skip
   case append=>
    rcases l with _|⟨x,_|⟨y,_|⟨z,l⟩⟩⟩<;>first|exact fE s.boxes hl|skip
    by_cases hsz:argTypes.size=2
    rotate_left
    ·simp only [hsz,if_false]at hl;exact fE s.boxes hl
    simp only [hsz,if_true]at hl
    obtain⟨I,T,E⟩:∃I T,args.toList=[I,T]:=by
     rcases Y:args.toList with _|⟨p,_|⟨q,_|⟨z,l⟩⟩⟩<;>simp [Y]at g1
     exact⟨p,q,rfl⟩
    have F:args= #[I,T]:=by apply Bo;exact E
    subst F
    obtain⟨t1,t2,N⟩:∃t1 t2,argTypes= #[t1,t2]:=by
     obtain⟨l⟩:=argTypes
     rcases l with _|⟨p,_|⟨q,_|⟨z,l⟩⟩⟩<;>simp at hsz
     exact⟨p,q,rfl⟩
    subst N
    have G:=g2 0 x (a.eval I) rfl rfl
    have H:=g2 1 y (a.eval T) rfl rfl
    by_cases a5:t1=t2
    rotate_left
    ·have U:ru P (o.dst.getD 0*16) t1 t2 x y s.boxes=some ((v,u),r,true):=by
      rw [if_neg (show ¬(#[t1,t2]:Array TypeId).getD 0 0=(#[t1,t2]:Array TypeId).getD 1 0 from a5)]at hl
      exact hl
     obtain⟨v',w',loc',j,C,K⟩:=vq (ty:=o.type) h U G H
     refine nV.value hd D (v':=v') (w':=w') ?_ C K
     simp only [execOp,n,resolve,Ap,Ar,Af,invoke,builtin,Bl,Bj,Bk]
     have J:(Builtin.append_ #[t1,t2] o.type #[a.eval I,a.eval T]).run P w= .ok v' w':=j
     rw [J]
     rfl
    rw [if_pos (show(#[t1,t2]:Array TypeId).getD 0 0=(#[t1,t2]:Array TypeId).getD 1 0 from a5)]at hl
    replace hl:lF P (o.dst.getD 0*16) t1 t2 x y s.boxes=some ((v,u),r,true):=hl
    obtain⟨N,v',w',S',loc',j,C,K⟩:=tL (ty:=o.type) h hl G H
    subst N
    refine nV.value hd D (v':=v') (w':=w') ?_ C K
    simp only [execOp,n,resolve,Ap,Ar,Af,invoke,builtin,Bl,Bj,Bk]
    have J:(Builtin.append_ #[t1,t1] o.type #[a.eval I,a.eval T]).run P w= .ok v' w':=j
    rw [J]
    rfl
   case copy=>
    rcases l with _|⟨x,_|⟨y,_|⟨z,l⟩⟩⟩<;>first|exact fE s.boxes hl|skip
    by_cases hsz:argTypes.size=2
    rotate_left
    ·simp only [hsz,if_false]at hl;exact fE s.boxes hl
    simp only [hsz,if_true]at hl
    obtain⟨I,T,E⟩:∃I T,args.toList=[I,T]:=by
     rcases Y:args.toList with _|⟨p,_|⟨q,_|⟨z,l⟩⟩⟩<;>simp [Y]at g1
     exact⟨p,q,rfl⟩
    have F:args= #[I,T]:=by apply Bo;exact E
    subst F
    obtain⟨t1,t2,N⟩:∃t1 t2,argTypes= #[t1,t2]:=by
     obtain⟨l⟩:=argTypes
     rcases l with _|⟨p,_|⟨q,_|⟨z,l⟩⟩⟩<;>simp at hsz
     exact⟨p,q,rfl⟩
    subst N
    have G:=g2 0 x (a.eval I) rfl rfl
    have H:=g2 1 y (a.eval T) rfl rfl
    replace hl:pE P t1 x y s.boxes=some ((v,u),r,true):=hl
    obtain⟨v',w',S',loc',j,C,K⟩:=vH (t':=t2) (ty:=o.type) h hl G H
    refine nV.value hd D (v':=v') (w':=w') ?_ C K
    simp only [execOp,n,resolve,Ap,Ar,Af,invoke,builtin,Bl,Bj,Bk]
    have J:(Builtin.copy_ #[t1,t2] o.type #[a.eval I,a.eval T]).run P w= .ok v' w':=j
    rw [J]
    rfl
   case clear=>
    rcases l with _|⟨x,_|⟨y,l⟩⟩<;>first|exact fE s.boxes hl|skip
    obtain⟨I,E⟩:∃I,args.toList=[I]:=by
     rcases Y:args.toList with _|⟨p,_|⟨q,l⟩⟩<;>simp [Y]at g1
     exact⟨p,rfl⟩
    have F:args= #[I]:=by apply Bo;exact E
    subst F
    have G:=g2 0 x (a.eval I) rfl rfl
    by_cases hsz:argTypes.size=1
    rotate_left
    ·simp only [hsz,if_false]at hl;exact fE s.boxes hl
    simp only [hsz,if_true]at hl
    obtain⟨t1,N⟩:∃t1,argTypes= #[t1]:=by
     obtain⟨l⟩:=argTypes
     rcases l with _|⟨p,_|⟨q,l⟩⟩<;>simp at hsz
     exact⟨p,rfl⟩
    subst N
    replace hl:nY P t1 x s.boxes=some ((v,u),r,true):=hl
    obtain⟨v',w',S',loc',j,C,K⟩:=uB (ty:=o.type) h hl G
    refine nV.value hd D (v':=v') (w':=w') ?_ C K
    simp only [execOp,n,resolve,Ap,Ar,Af,invoke,builtin,Bl,Bj,Bk]
    have J:(Builtin.clear_ #[t1] o.type #[a.eval I]).run P w= .ok v' w':=j
    rw [J]
    rfl
   case min=>
    obtain⟨v',j,C,rfl⟩:=wZ (P:=P) (w:=w) (ts:=argTypes) (ty:=o.type) (vs:=args.map a.eval) hl (by simpa using g1) (fun i x y G H=>g2 i x y G (by simpa using H))
    refine nV.value hd D (v':=v') (w':=w) ?_ h C
    simp only [execOp,n,resolve,Ap,Ar,Af,invoke,builtin]
    rw [j]
    rfl
   case max=>
    obtain⟨v',j,C,rfl⟩:=wY (P:=P) (w:=w) (ts:=argTypes) (ty:=o.type) (vs:=args.map a.eval) hl (by simpa using g1) (fun i x y G H=>g2 i x y G (by simpa using H))
    refine nV.value hd D (v':=v') (w':=w) ?_ h C
    simp only [execOp,n,resolve,Ap,Ar,Af,invoke,builtin]
    rw [j]
    rfl
   case cap=>
    rcases l with _|⟨x,_|⟨y,l⟩⟩<;>first|exact fE s.boxes hl|skip
    obtain⟨I,E⟩:∃I,args.toList=[I]:=by
     rcases Y:args.toList with _|⟨p,_|⟨q,l⟩⟩<;>simp [Y]at g1
     exact⟨p,rfl⟩
    have F:args= #[I]:=by apply Bo;exact E
    subst F
    have G:=g2 0 x (a.eval I) rfl rfl
    by_cases hsz:argTypes.size=1
    rotate_left
    ·simp only [hsz,if_false]at hl;exact fE s.boxes hl
    simp only [hsz,if_true]at hl
    obtain⟨t1,N⟩:∃t1,argTypes= #[t1]:=by
     obtain⟨l⟩:=argTypes
     rcases l with _|⟨p,_|⟨q,l⟩⟩<;>simp at hsz
     exact⟨p,rfl⟩
    subst N
    obtain⟨v',j,C,rfl⟩:=wH (ty:=o.type) h hl G
    refine nV.value hd D (v':=v') (w':=w) ?_ h C
    simp only [execOp,n,resolve,Ap,Ar,Af,invoke,builtin,Bl,Bj,Bk]
    have J:(Builtin.cap_ #[t1] o.type #[a.eval I]).run P w= .ok v' w:=j
    rw [J]
    rfl
   case len=>
    rcases l with _|⟨x,_|⟨y,l⟩⟩<;>first|exact fE s.boxes hl|skip
    obtain⟨I,E⟩:∃I,args.toList=[I]:=by
     rcases Y:args.toList with _|⟨p,_|⟨q,l⟩⟩<;>simp [Y]at g1
     exact⟨p,rfl⟩
    have F:args= #[I]:=by apply Bo;exact E
    subst F
    have G:=g2 0 x (a.eval I) rfl rfl
    by_cases hsz:argTypes.size=1
    rotate_left
    ·simp only [hsz,if_false]at hl;exact fE s.boxes hl
    simp only [hsz,if_true]at hl
    obtain⟨t1,N⟩:∃t1,argTypes= #[t1]:=by
     obtain⟨l⟩:=argTypes
     rcases l with _|⟨p,_|⟨q,l⟩⟩<;>simp at hsz
     exact⟨p,rfl⟩
    subst N
    obtain⟨v',j,C,rfl⟩:=wV (ty:=o.type) h hl G
    refine nV.value hd D (v':=v') (w':=w) ?_ h C
    simp only [execOp,n,resolve,Ap,Ar,Af,invoke,builtin,Bl,Bj,Bk]
    have J:(Builtin.len_ #[t1] o.type #[a.eval I]).run P w= .ok v' w:=j
    rw [J]
    rfl
end
end Go.Dw
