
import Derived.Test.YtgdhcacjeppglaaGreatDwIfc
import Derived.Test.YtgdhcacjeppglaaGreatDwEq
import Derived.Lib.ConvBytes
import Derived.Laws.IdiomStrings
import Derived.Laws.BytesArg
set_option linter.unusedVariables false
set_option linter.unusedSimpArgs false
open Option.some renaming injEq->AD
open List renaming getD->Ag, getElem?_cons_succ->AT, getElem?_cons_zero->AU, getElem?_map->As, length_map->B7, map_cons->Bj, map_nil->Bk, map_toArray->Bl, mem_of_getElem?->A1
open Prod.mk renaming injEq->AF
open Go.Sem renaming run_bind->Ap, run_pure->Ar
open Nat renaming add_zero->A7, mul_one->Bm
open Array renaming eq_empty_of_size_eq_zero->Bn, ext'->Bo, getElem?_append_left->Bp, getElem?_append_right->Bq, map->Br, toList_map->Bs
open Go.Result renaming andThen_ok->Af

namespace Go.Dw
section
variable {P:Program}{X:Ctx}{S:cp}{loc:cJ}{s:St}{w:World}{a:Act}
theorem jj(h:Sim P X S loc s a.tmps w):∀{xs:List Operand}{l:List RV},fe s xs=some l->l.length=xs.length∧∀(i:Nat)x v,l[i]? =some x->(xs.map a.eval)[i]? =some v->R S loc x v
 | [],l,hl=>by
  simp only [fe,AD]at hl
  subst hl
  exact⟨rfl,fun i x v e=>by simp at e⟩
 |x::xs,l,hl=>by
  simp only [fe]at hl
  rcases h1:s.opd x with _|v
  ·simp [h1]at hl
  rcases c:fe s xs with _|r
  ·simp [h1,c]at hl
  simp only [h1,c,AD]at hl
  subst hl
  obtain⟨g1,g2⟩:=jj h c
  refine⟨by simp [g1],fun i y u b hu=>?_⟩
  cases i with
  |zero=>
   simp only [AU,AD,Bj]at b hu
   subst b;subst hu
   exact h.opd h1
  |succ i=>simp only [AT,Bj]at b hu;exact g2 i y u b hu
theorem fN(h:Sim P X S loc s a.tmps w):∀{xs:List (Nat×Operand)}{l:List (Nat×RV)},dt s xs=some l->kS S loc l (xs.map fun(i,x)=>(i,a.eval x))
 | [],l,hl=>by
  simp only [dt,AD]at hl
  subst hl
  exact⟨rfl,fun i x v e=>by simp at e⟩
 |(k,x)::xs,l,hl=>by
  simp only [dt]at hl
  rcases h1:s.opd x with _|v
  ·simp [h1]at hl
  rcases c:dt s xs with _|r
  ·simp [h1,c]at hl
  simp only [h1,c,AD]at hl
  subst hl
  obtain⟨g1,g2⟩:=fN h c
  refine⟨by simpa using g1,fun i y u b hu=>?_⟩
  cases i with
  |zero=>
   simp only [AU,AD,Bj]at b hu
   subst b;subst hu
   exact⟨rfl,h.opd h1⟩
  |succ i=>simp only [AT,Bj]at b hu;exact g2 i y u b hu
theorem ed(h:Sim P X S loc s a.tmps w){x:Option Operand}{v:Option RV}(b:dv s x=some v):RO S loc v (x.map a.eval):=by
 cases x with
 |none=>simp only [dv,AD]at b;subst b;exact .none
 |some x=>
  simp only [dv]at b
  rcases h1:s.opd x with _|r
  ·simp [h1]at b
  simp only [h1,AD]at b
  subst b
  exact .some (h.opd h1)
theorem mm{src dst:TypeId}{x:RV}{p:PD}{v:Value}(h:convD P src dst x=some (p,true))(c:R S loc x v):∃v',(convert src dst v).run P w= .ok v' w∧V S p v':=by
 unfold convD at h
 rcases h1:P.underlying src with _|d1
 ·simp [h1]at h
 rcases b:P.underlying dst with _|d2
 ·cases d1<;>simp [h1,b]at h
 cases d1<;>cases d2<;>first|(simp [h1,b]at h;done)|skip
 all_goals (rcases x with e|_|_|_|_|_|_|_|_|_|_|_|_<;>first|(simp [h1,b]at h;done)|skip)
 all_goals (cases e<;>first|(simp [h1,b]at h;done)|skip)
 ·simp only [h1,b,AD,AF,and_true]at h
  subst h
  have:=c.cC
  subst this
  exact⟨_,by simp [convert,run_underlying h1,run_underlying b,Conv.intToInt],.int _ _⟩
 ·simp only [h1,b,AD,AF,and_true]at h
  subst h
  have:=c.gy
  subst this
  exact⟨_,by simp [convert,run_underlying h1,run_underlying b],.str _⟩
theorem nd(w:World)(e:TypeId)(b:ByteArray):Step none w (Lib.bytesWorld w e b):=
 ⟨rfl,rfl,rfl,by rw [Lib.bytesWorld_size];omega,fun j c _=>Lib.bytesWorld_at_old w e b j c,Nat.le_succ _⟩
theorem mj(P:Program)(id:Nat)(src dst:TypeId)(x:RV):(∃e str,P.underlying src=some .string∧P.underlying dst=some (.slice e)∧x= .d (.str str))∨(∃e i ver,P.underlying src=some (.slice e)∧P.underlying dst=some .string∧x= .ref i ver)∨(∃e es,P.underlying src=some (.slice e)∧P.underlying dst=some .string∧x= .d (.lst es))∨
  gA P id src dst x=gD (convD P src dst x):=by
 unfold gA
 split
 ·exact .inl ⟨_,_,by assumption,by assumption,rfl⟩
 ·exact .inr (.inl ⟨_,_,_,by assumption,by assumption,rfl⟩)
 ·exact .inr (.inr (.inl ⟨_,_,by assumption,by assumption,rfl⟩))
 ·exact .inr (.inr (.inr rfl))
theorem nh(h:Sim P X S loc s a.tmps w){src dst e:TypeId}{g:List Int}{q:Value}(n:P.underlying src=some (.slice e))(he:P.underlying e=some (.int .u8))(hd:P.underlying dst=some .string)(p:V S (.lst (g.map (.int .u8))) q):
  (convert src dst q).run P w= .ok (.string ⟨(strU g).toArray⟩) w:=by
 generalize j:g.map (PD.int .u8)=es at p
 cases p with
 |nil a c=>
  obtain rfl:=List.map_eq_nil_iff.1 j
  rw [run_convert_bytes_string w src dst e a 0 c n he hd]
  cases a<;>simp [Conv.bytesToString,loadCells,loadCellsFrom,strU,Ar]<;>rfl
 |lst _ b o c sz f hc hsz hS hV=>
  subst j
  rw [B7]
  refine run_convert_bytes_arg w src e n he b o g.length c g rfl (fun i m=>?_) dst hd
  have h1:(g.map (PD.int .u8))[i]? =some (.int .u8 g[i]):=by simp [m]
  have r:sz=1:=by rw [<-hsz _ (A1 h1)];rfl
  subst r
  have k:=h.imm _ _ (hS i _ 0 _ h1 rfl)
  have l:=(hV i _ 0 _ h1 rfl)
  rw [Bm,A7]at k
  rw [k]
  generalize f i 0=u at l
  cases l
  simp [Ag,m]
theorem conv_row(h:Sim P X S loc s a.tmps w){src dst e t:TypeId}{i ver:Nat}{b:List Int}{r:Value}(q:P.underlying src=some (.slice e))(he:P.underlying e=some (.int .u8))(hd:P.underlying dst=some .string)
  (hb:s.boxes i=some (.arr ver t (b.map (.int .u8)))) (x:R S loc (.ref i ver) r):
  (convert src dst r).run P w= .ok (.string ⟨(strU b).toArray⟩) w:=by
 obtain⟨sz,xs,p,hsz,how,hf⟩:=h.fm hb x
 by_cases k:b=[]
 ·subst k
  obtain⟨l,c,rfl,_⟩:=how.hdr
  rw [Bk,List.length_nil,run_convert_bytes_string w src dst e l 0 c q he hd]
  cases l<;>simp [Conv.bytesToString,loadCells,loadCellsFrom,strU,Ar]<;>rfl
 ·have f:0<b.length:=by cases b with|nil=>exact(k rfl).elim|cons=>simp
  have how:=how.fw (by simpa using f)
  obtain⟨g,c,rfl⟩:=ec how (by simpa using f)
  rw [B7]
  refine run_convert_bytes_arg w src e q he g 0 b.length c b rfl (fun j o=>?_) dst hd
  have h1:(b.map (PD.int .u8))[j]? =some (.int .u8 b[j]):=by simp [o]
  have y:sz=1:=by rw [<-hf.len _ (A1 h1)];rfl
  subst y
  obtain⟨u,m,v⟩:=hf.cell j _ 0 _ h1 rfl
  rw [Bm,A7]at m
  have n:=how.cells (g:=g) rfl j u m
  rw [cV]at n
  rw [n]
  cases v
  simp [Ag,o]
theorem ml(h:Sim P X S loc s a.tmps w){id:Nat}{src dst:TypeId}{x v:RV}{u:Ups}{r:List Nat}{J:Value}(hl:gA P id src dst x s.boxes=some ((v,u),r,true))(G:R S loc x J):
  ∃v' w' loc',(convert src dst J).run P w= .ok v' w'∧Sim P X S loc' (s.ups u) a.tmps w'∧R S loc' v v':=by
 rcases mj P id src dst x with⟨e,str,n,hd,rfl⟩|⟨e,i,ver,n,hd,rfl⟩|⟨e,es,n,hd,rfl⟩|hc
 ·unfold gA at hl
  simp only [n,hd]at hl
  by_cases he:P.underlying e=some (.int .u8)
  ·simp only [he]at hl
   obtain⟨_,W,Y,h1,f,_⟩:=M.bind_some hl
   obtain⟨hb,_,_⟩:=M.cU h1
   obtain⟨o, -,hc⟩:=M.cg f
   cases o
   have L:=G.gy
   subst L
   obtain⟨T,hlen⟩:=of_decide_eq_true hc.symm
   have hsz:ByteArray.size ⟨str.toArray⟩=str.length:=by simp [ByteArray.size]
   have B:=grownCap_ge w (ByteArray.size ⟨str.toArray⟩) 0 e
   have l:=grownCap_le_maxLen w (ByteArray.size ⟨str.toArray⟩) 0 e (by rw [hsz];simp only [maxLen];omega)
   have m:=Lib.run_convert_string_bytes (P:=P) w src dst e ⟨str.toArray⟩ n hd he
   have C:=Lib.bytesWorld_at_new w e ⟨str.toArray⟩
   rw [hsz]at B l m
   have z:(Lib.bytesCells w e ⟨str.toArray⟩).size=grownCap w str.length 0 e:=by
    simp only [Lib.bytesCells,Array.size_append,Array.size_map,Array.size_replicate,hsz]
    simp;omega
   obtain⟨loc',h1,f,_⟩:=h.gQ (P:=P) (w':=Lib.bytesWorld w e ⟨str.toArray⟩) (es:=str.map fun b=>.int .u8 b.toNat) (xs:=str.map fun b=>.int .u8 b.toNat) hb (nd w e _) T
    (hdr:= .slice (some ⟨w.heap.size,0,none⟩) str.length (grownCap w str.length 0 e))
    (.inl ⟨sm, .inr ⟨w.heap.size, _, _, _, sm, .inr ⟨z, rfl⟩, C, by simpa using B, l, by simpa using z, by
     simp only [Lib.bytesCells,B7,Bm,Array.toList_append,Bs]
     exact List.take_left' sm⟩⟩)
    ⟨by simp [PD.cells], by simp; intro a _; rfl, fun i y j x I H => by
     rw [As,Option.map_eq_some_iff]at I
     obtain⟨b,hb,rfl⟩:=I
     cases j with
     |succ j=>simp [PD.cells]at H
     |zero=>
      simp only [PD.cells,AU,AD]at H
      subst H
      exact⟨_,by rw [Bm,A7,As,hb];rfl,.int _ _⟩⟩
    (fun g E => by
     unfold cA at E
     split at E
     ·rename_i h1
      simp only [Value.slice.injEq,AD]at h1
      obtain⟨h1, -⟩:=h1
      subst h1
      cases E
      exact Nat.le_refl _
     ·cases E) rfl
   exact⟨_,_,loc',m,h1,f⟩
  ·rcases c:P.underlying e with _|q
   ·simp only [c]at hl;exact fE s.boxes hl
   ·cases q<;>first|(simp only [c]at hl;exact fE s.boxes hl)|skip
    rename_i k
    cases k<;>first|exact(he c).elim|(simp only [c]at hl;exact fE s.boxes hl)
 ·unfold gA at hl
  simp only [n,hd]at hl
  by_cases he:P.underlying e=some (.int .u8)
  ·simp only [he]at hl
   obtain⟨K,W,Y,h1,f,_⟩:=M.bind_some hl
   obtain⟨hb,_,_⟩:=M.get_some h1
   cases K<;>first|exact fE s.boxes f|skip
   rename_i D e' es
   by_cases F:ver=D
   rotate_left
   ·simp only [F,if_false]at f;exact fE s.boxes f
   subst F
   simp only [if_true]at f
   rcases t:u8s es with _|U
   ·simp only [t]at f;exact fE s.boxes f
   simp only [t]at f
   obtain⟨o, -, -⟩:=ch f
   cases o
   obtain rfl:=kI t
   exact⟨_,w,loc,conv_row h n he hd hb G,h,.d (.str _)⟩
  ·rcases c:P.underlying e with _|q
   ·simp only [c]at hl;exact fE s.boxes hl
   ·cases q<;>first|(simp only [c]at hl;exact fE s.boxes hl)|skip
    rename_i k
    cases k<;>first|exact(he c).elim|(simp only [c]at hl;exact fE s.boxes hl)
 ·unfold gA at hl
  simp only [n,hd]at hl
  by_cases he:P.underlying e=some (.int .u8)
  ·simp only [he]at hl
   rcases t:u8s es with _|U
   ·simp only [t]at hl;exact fE s.boxes hl
   simp only [t]at hl
   obtain⟨o, -, -⟩:=ch hl
   cases o
   obtain rfl:=kI t
   cases G with
   |d F=>exact⟨_,w,loc,nh h n he hd F,h,.d (.str _)⟩
  ·rcases c:P.underlying e with _|q
   ·simp only [c]at hl;exact fE s.boxes hl
   ·cases q<;>first|(simp only [c]at hl;exact fE s.boxes hl)|skip
    rename_i k
    cases k<;>first|exact(he c).elim|(simp only [c]at hl;exact fE s.boxes hl)
 ·rw [hc]at hl
  obtain⟨p,o,N, -⟩:=gr hl
  cases N
  obtain⟨v',O,Q⟩:=mm (P:=P) (w:=w) o G
  exact⟨v',w,loc,O,h,.d Q⟩
theorem nq{mt:Hf}{call:cB}(I:ea P X.base call){o:Oper}(hS:eN P X s a w)(C:∀d,o.dst=some d->d<X.nt){v:RV}{u:Ups}{r:List Nat}
  (hl:cX P mt call s o s.boxes=some ((v,u),r,true)):eM P X ((s.ups u).put o.dst v) o a w:=by
 obtain⟨hd,S,loc,h⟩:=hS
 have pure_:∀{v':Value},(execOp a.eval o).run P w= .ok (.value v') w->R S loc v v'->u=[]->eM P X ((s.ups u).put o.dst v) o a w:=by
  intro v' O T hu
  subst hu
  exact eM.value hd C O h T
 have val:∀{m:Sem Value}{v':Value}{w':World}{S':cp}{loc':cJ},(execOp a.eval o)=(do pure (.value (<-m)))->m.run P w= .ok v' w'->Sim P X S' loc' (s.ups u) a.tmps w'->R S' loc' v v'->eM P X ((s.ups u).put o.dst v) o a w:=by
  intro m v' w' S' loc' he hm hs T
  refine eM.value hd C (v':=v') (w':=w') ?_ hs T
  rw [he]
  simp [hm]
 unfold cX at hl
 rcases j:o.op with x|x|⟨c,x,y⟩|t|⟨t,x⟩|⟨t,parts⟩|⟨t,len,parts⟩|⟨t,m,k,x⟩|⟨t,x⟩|⟨t,x,y⟩|g|g|x|⟨op,t,x,y,t2⟩|⟨op,t,x⟩|⟨t,t2,x⟩|⟨t,x⟩|⟨t,x⟩|⟨fn,x,y⟩|⟨t,x⟩|⟨t,x⟩|⟨t,x,y⟩|⟨t,x,lo,hi,mx⟩|⟨t,x,f⟩|⟨t,x,f⟩|⟨t,x,y⟩|⟨t,x,y⟩|⟨t,x,y,c⟩|⟨t,x,y,c⟩|⟨t,x,y⟩|⟨t,x,y,c⟩|⟨t,x⟩|⟨x,b⟩|x|⟨x,t,t2,b⟩|⟨x,i⟩|c|c|c|x|⟨x,y⟩|⟨t,x,b⟩|⟨cs,b⟩
 all_goals (simp only [j]at hl)
 all_goals first|exact fE s.boxes hl|skip
 ·rcases h1:s.opd x with _|v1
  ·simp only [h1]at hl;exact fE s.boxes hl
  simp only [h1]at hl
  obtain⟨B, -, -⟩:=ch hl
  cases B
  exact pure_ (by simp [execOp,j]) (h.opd h1) rfl
 ·rcases h1:s.opd x with _|v1
  ·simp only [h1]at hl;exact fE s.boxes hl
  simp only [h1]at hl
  obtain⟨B, -, -⟩:=ch hl
  cases B
  exact pure_ (by simp [execOp,j]) (h.opd h1) rfl
 ·rcases h1:s.opd c with _|v1
  ·simp only [h1]at hl;exact fE s.boxes hl
  rw [h1]at hl
  rcases v1 with p|_|_|_|_|_|_|_|_|_|_|_|_<;>first|exact fE s.boxes hl|skip
  cases p<;>first|exact fE s.boxes hl|skip
  rename_i b
  have hb:=(h.opd h1).eP
  cases b
  ·rcases B:s.opd y with _|v2
   ·simp only [B,Bool.false_eq_true,if_false]at hl;exact fE s.boxes hl
   simp only [B,Bool.false_eq_true,if_false]at hl
   obtain⟨n, -, -⟩:=ch hl
   cases n
   exact pure_ (by simp [execOp,j,hb,asBool]) (h.opd B) rfl
  ·rcases B:s.opd x with _|v2
   ·simp only [B,if_true]at hl;exact fE s.boxes hl
   simp only [B,if_true]at hl
   obtain⟨n, -, -⟩:=ch hl
   cases n
   exact pure_ (by simp [execOp,j,hb,asBool]) (h.opd B) rfl
 ·obtain⟨v',w',loc',h1,B,n⟩:=lr h hl
  exact val (by simp only [execOp,j]) h1 B n
 ·rcases h1:s.opd x with _|v1
  ·simp only [h1]at hl;exact fE s.boxes hl
  simp only [h1]at hl
  obtain⟨v',w',loc',h1,B,n⟩:=na (t:=t) h hl (h.opd h1)
  exact val (by simp only [execOp,j]) h1 B n
 ·rcases h1:dt s parts.toList with _|l
  ·simp only [h1]at hl;exact fE s.boxes hl
  simp only [h1]at hl
  have hp:=fN h h1
  obtain⟨v',B,n,rfl⟩:=lx (P:=P) (w:=w) (pvs:=parts.map fun(i,x)=>(i,a.eval x)) hl (by simpa using hp)
  exact val (S':=S) (loc':=loc) (by simp only [execOp,j]) B h n
 ·rcases h1:dt s parts.toList with _|l
  ·simp only [h1]at hl;exact fE s.boxes hl
  simp only [h1]at hl
  have hp:=fN h h1
  by_cases a8:mt.lit (o.dst.getD 0+1048576)=true
  ·rw [if_pos a8]at hl
   obtain⟨v',w',S',loc',B,n,D⟩:=mK (pvs:=parts.map fun(i,x)=>(i,a.eval x)) h hl (by simpa using hp)
   exact val (by simp only [execOp,j]) B n D
  rw [if_neg a8]at hl
  obtain⟨v',w',S',loc',B,n,D⟩:=iF (pvs:=parts.map fun(i,x)=>(i,a.eval x)) h hl (by simpa using hp)
  exact val (by simp only [execOp,j]) B n D
 ·rcases h1:s.opd x with _|v1
  ·simp only [h1]at hl;exact fE s.boxes hl
  simp only [h1]at hl
  obtain⟨v',B,n,rfl⟩:=gO h hl (h.opd h1)
  exact val (S':=S) (loc':=loc) (by simp only [execOp,j]) B h n
 ·rcases h1:s.opd x with _|v1
  ·simp only [h1]at hl;exact fE s.boxes hl
  rcases B:s.opd y with _|v2
  ·simp only [h1,B]at hl;exact fE s.boxes hl
  simp only [h1,B]at hl
  obtain⟨w',S',loc',n,D,rfl⟩:=l4 h hl (h.opd h1) (h.opd B)
  exact eM.skip hd C (w':=w') (by simp [execOp,j,n]) D
 ·rcases h1:s.opd x with _|v1
  ·simp only [h1]at hl;exact fE s.boxes hl
  simp only [h1]at hl
  obtain⟨ad,he,B,rfl,_⟩:=gP h hl (h.opd h1)
  refine pure_ (v':= .pointer (some ad)) (by simp [execOp,j,he]) ?_ rfl
  rwa [Addr.add_zero']at B
 ·rcases h1:s.opd x with _|v1
  ·simp only [h1]at hl;exact fE s.boxes hl
  rcases B:s.opd y with _|v2
  ·simp only [h1,B]at hl;exact fE s.boxes hl
  simp only [h1,B]at hl
  obtain⟨p,n,D, -⟩:=gr hl
  cases D
  obtain⟨v',L,h6⟩:=mZ (P:=P) (w:=w) t x y n (h.opd h1) (h.opd B)
  exact val (S':=S) (loc':=loc) (by simp only [execOp,j]) L h (.d h6)
 ·cases op with
  |not=>
   rcases h1:s.opd x with _|v1
   ·simp only [h1]at hl;exact fE s.boxes hl
   simp only [h1]at hl
   obtain⟨p,n,D, -⟩:=gr hl
   cases D
   rcases v1 with p'|_|_|_|_|_|_|_|_|_|_|_|_<;>first|(simp [notD]at n;done)|skip
   cases p'<;>first|(simp [notD]at n;done)|skip
   simp only [notD,AD,AF,and_true]at n
   subst n
   have hb:=(h.opd h1).eP
   exact val (S':=S) (loc':=loc) (m:=Op.unary .not (a.eval x)) (by simp only [execOp,j]) (by rw [hb];rfl) h (.d (.bool _))
  |neg=>
   rcases h1:s.opd x with _|v1
   ·simp only [h1]at hl;exact fE s.boxes hl
   simp only [h1]at hl
   obtain⟨p,n,D, -⟩:=gr hl
   cases D
   rcases v1 with p'|_|_|_|_|_|_|_|_|_|_|_|_<;>first|(simp [negD]at n;done)|skip
   cases p'<;>first|(simp [negD]at n;done)|skip
   simp only [negD,AD,AF,and_true]at n
   subst n
   have hb:=(h.opd h1).cC
   exact val (S':=S) (loc':=loc) (m:=Op.unary .neg (a.eval x)) (by simp only [execOp,j]) (by rw [hb];rfl) h (.d (.int _ _))
  |xor=>exact fE s.boxes hl
  |plus=>exact fE s.boxes hl
 ·rcases h1:s.opd x with _|v1
  ·simp only [h1]at hl;exact fE s.boxes hl
  simp only [h1]at hl
  obtain⟨v',w',loc',L,h6,h7⟩:=ml h hl (h.opd h1)
  exact val (S':=S) (loc':=loc') (by simp only [execOp,j]) L h6 h7
 ·rcases h1:s.opd x with _|v1
  ·simp only [h1]at hl;exact fE s.boxes hl
  simp only [h1]at hl
  obtain⟨v',n,D,rfl⟩:=nv (w:=w) hl (h.opd h1)
  exact val (S':=S) (loc':=loc) (by simp only [execOp,j]) n h D
 ·rcases B:fe s y.toList with _|l
  ·simp only [B]at hl;exact fE s.boxes hl
  simp only [B]at hl
  obtain⟨fl⟩:=x
  cases fn<;>first|exact fE s.boxes hl|skip
  rename_i g
  obtain⟨g1,g2⟩:=jj h B
  rcases fl with _|⟨x0,_|⟨x1,fl⟩⟩<;>first|exact fE s.boxes hl|skip
  rotate_left
  ·simp only at hl
   rcases n:s.opd x0 with _|rv
   ·simp only [n]at hl;exact fE s.boxes hl
   rw [n]at hl
   by_cases a6:∃id off,rv= .ptr id off
   ·obtain⟨id,off,rfl⟩:=a6
    cases l<;>first|exact fE s.boxes hl|skip
    obtain⟨D, -, -⟩:=ch hl
    cases D
    have H:y= #[]:=Bn (by simpa using g1.symm)
    subst H
    refine val (S':=S) (loc':=loc) (v':= .func (.func g) #[a.eval x0] #[]) (w':=w) (m:=Instr.makeFunc (.func g) #[a.eval x0] #[]) (by simp [execOp,j]) rfl h (.bnd g _ _ (h.opd n))
   rcases rv with p|_|_|_|_|_|_|_|_|_|_|_|_<;>first|exact fE s.boxes hl|exact(a6 ⟨_,_,rfl⟩).elim|skip
   cases p<;>first|exact fE s.boxes hl|skip
   rename_i cs
   cases cs<;>first|exact fE s.boxes hl|skip
   cases l<;>first|exact fE s.boxes hl|skip
   obtain⟨D, -, -⟩:=ch hl
   cases D
   have b6:a.eval x0= .agg #[]:=by
    have:=h.opd n
    generalize a.eval x0=q at this
    cases this with
    |d hh=>cases hh with
     |agg _ vs b5 _=>
      have hz:vs= #[]:=Bn (by simpa using b5)
      rw [hz]
   have H:y= #[]:=Bn (by simpa using g1.symm)
   subst H
   refine val (S':=S) (loc':=loc) (v':= .func (.func g) #[.agg #[]] #[]) (w':=w) (m:=Instr.makeFunc (.func g) #[.agg #[]] #[]) (by simp [execOp,j,b6]) rfl h (.d (.raw _ rfl))
  obtain⟨n, -, -⟩:=ch hl
  cases n
  refine val (S':=S) (loc':=loc) (v':= .func (.func g) #[] (y.map a.eval)) (w':=w) (m:=Instr.makeFunc (.func g) #[] (y.map a.eval)) (by simp only [execOp,j,Bl,Bk]) rfl h ?_
  exact .clo g l _ (by simpa using g1.symm) (fun i c u hc hu=>g2 i c u hc (by simpa using hu))
 ·rcases h1:dv s x with _|v1
  ·simp only [h1]at hl;exact fE s.boxes hl
  rw [h1]at hl
  cases v1 with
  |some _=>exact fE s.boxes hl
  |none=>
   simp only at hl
   have G:x=none:=by
    cases x with
    |none=>rfl
    |some y=>simp only [dv]at h1;split at h1<;>cases h1
   subst G
   by_cases a0:mt.lit (o.dst.getD 0)=true
   ·rw [if_pos a0]at hl
    obtain⟨v',w',loc',B,n,D⟩:=kq h hl
    exact val (by simp only [execOp,j,Option.map_none]) B n D
   rw [if_neg a0]at hl
   obtain⟨v',w',loc',B,n,D⟩:=ko h hl
   exact val (by simp only [execOp,j,Option.map_none]) B n D
 ·rcases h1:s.opd x with _|v1
  ·simp only [h1]at hl;exact fE s.boxes hl
  rcases B:s.opd y with _|v2
  ·simp only [h1,B]at hl;exact fE s.boxes hl
  simp only [h1,B]at hl
  obtain⟨v',w',loc',n,D,L⟩:=ji h hl (h.opd h1) (h.opd B)
  exact val (by simp only [execOp,j]) n D L
 ·rcases h1:s.opd x with _|v1
  ·simp only [h1]at hl;exact fE s.boxes hl
  rcases B:dv s lo with _|v2
  ·simp only [h1,B]at hl;exact fE s.boxes hl
  rcases n:dv s hi with _|v3
  ·simp only [h1,B,n]at hl;exact fE s.boxes hl
  rcases D:dv s mx with _|v4
  ·simp only [h1,B,n,D]at hl;exact fE s.boxes hl
  simp only [h1,B,n,D]at hl
  split at hl
  ·obtain⟨v',S',loc',L,h6,h7⟩:=mI h hl (h.opd h1) (ed h B) (ed h n) (ed h D)
   exact val (S':=S') (loc':=loc') (by simp only [execOp,j]) L h6 h7
  ·obtain⟨v',S',loc',L,h6,h7⟩:=lZ h hl (h.opd h1) (ed h B) (ed h n) (ed h D)
   exact val (S':=S') (loc':=loc') (by simp only [execOp,j]) L h6 h7
 ·rcases h1:s.opd x with _|v1
  ·simp only [h1]at hl;exact fE s.boxes hl
  simp only [h1]at hl
  obtain⟨v',B,n,rfl⟩:=jd h hl (h.opd h1)
  exact val (S':=S) (loc':=loc) (by simp only [execOp,j]) B h n
 ·rcases h1:s.opd x with _|v1
  ·simp only [h1]at hl;exact fE s.boxes hl
  simp only [h1]at hl
  obtain⟨v',B,n,rfl⟩:=lF (P:=P) (w:=w) hl (h.opd h1)
  exact val (S':=S) (loc':=loc) (by simp only [execOp,j]) B h n
 ·rcases h1:s.opd x with _|v1
  ·simp only [h1]at hl;exact fE s.boxes hl
  rcases B:s.opd y with _|v2
  ·simp only [h1,B]at hl;exact fE s.boxes hl
  simp only [h1,B]at hl
  obtain⟨v',n,D,rfl⟩:=jg h hl (h.opd h1) (h.opd B)
  exact val (S':=S) (loc':=loc) (by simp only [execOp,j]) n h D
 ·rcases h1:s.opd x with _|v1
  ·simp only [h1]at hl;exact fE s.boxes hl
  rcases B:s.opd y with _|v2
  ·simp only [h1,B]at hl;exact fE s.boxes hl
  simp only [h1,B]at hl
  obtain⟨v',n,D,rfl⟩:=lL (P:=P) (w:=w) hl (h.opd h1) (h.opd B)
  exact val (S':=S) (loc':=loc) (by simp only [execOp,j]) n h D
 ·rcases h1:s.opd x with _|v1
  ·simp only [h1]at hl;exact fE s.boxes hl
  rcases B:s.opd y with _|v2
  ·simp only [h1,B]at hl;exact fE s.boxes hl
  simp only [h1,B]at hl
  obtain⟨v',n,D,rfl⟩:=kO h hl (h.opd h1) (h.opd B)
  exact val (S':=S) (loc':=loc) (by simp only [execOp,j]) n h D
 ·rcases h1:s.opd x with _|v1
  ·simp only [h1]at hl;exact fE s.boxes hl
  rcases B:s.opd y with _|v2
  ·simp only [h1,B]at hl;exact fE s.boxes hl
  rcases n:s.opd c with _|v3
  ·simp only [h1,B,n]at hl;exact fE s.boxes hl
  simp only [h1,B,n]at hl
  obtain⟨w',S',loc',D,L,rfl⟩:=kP h hl (h.opd h1) (h.opd B) (h.opd n)
  exact eM.skip hd C (w':=w') (by simp [execOp,j,D]) L
 ·rcases h1:s.opd x with _|v1
  ·simp only [h1]at hl;exact fE s.boxes hl
  rcases B:s.opd y with _|v2
  ·simp only [h1,B]at hl;exact fE s.boxes hl
  simp only [h1,B]at hl
  obtain⟨v',w',loc',n,D,L⟩:=jP h hl (h.opd h1) (h.opd B)
  exact val (by simp only [execOp,j]) n D L
 ·rcases h1:s.opd x with _|v1
  ·simp only [h1]at hl;exact fE s.boxes hl
  rcases B:s.opd y with _|v2
  ·simp only [h1,B]at hl;exact fE s.boxes hl
  rcases n:s.opd c with _|v3
  ·simp only [h1,B,n]at hl;exact fE s.boxes hl
  simp only [h1,B,n]at hl
  obtain⟨w',loc',D,L,rfl⟩:=iH (t:=t) h hl (h.opd h1) (h.opd B) (h.opd n)
  exact eM.skip hd C (w':=w') (by simp [execOp,j,D]) L
 ·rcases h1:s.opd x with _|v1
  ·simp only [h1]at hl;exact fE s.boxes hl
  simp only [h1]at hl
  obtain⟨v',n,D,rfl⟩:=kM (w:=w) (xt:=t) hl (h.opd h1)
  exact val (S':=S) (loc':=loc) (by simp only [execOp,j]) n h D
 ·rcases h1:s.opd x with _|v1
  ·simp only [h1]at hl;exact fE s.boxes hl
  rw [h1]at hl
  rcases v1 with p|_|_|_|_|vs|_|_|_|_|_|_|_<;>first|exact fE s.boxes hl|skip
  rcases B:vs[i]? with _|v2
  ·simp only [B]at hl;exact fE s.boxes hl
  simp only [B]at hl
  obtain⟨n, -, -⟩:=ch hl
  cases n
  have T:=h.opd h1
  generalize G:a.eval x=vx at T
  cases T with
  |tup _ ws hlen hc=>
   have b3:i<ws.size:=by rw [hlen];exact(List.getElem?_eq_some_iff.1 B).1
   have hw:=Array.getElem?_eq_getElem b3
   refine val (S':=S) (loc':=loc) (v':=ws[i]) (w':=w) (m:=Instr.extract (.tuple ws) i) (by simp only [execOp,j,G]) ?_ h (hc i v _ B hw)
   simp [Instr.extract,hw]
 ·obtain⟨callee,args,argTypes⟩:=c
  simp only at hl
  rcases B:fe s args.toList with _|l
  ·rw [B]at hl;cases callee with
   |value f=>exact fE s.boxes hl
   |invoke r m=>exact fE s.boxes hl
   |builtin b=>cases b<;>exact fE s.boxes hl
  rw [B]at hl
  obtain⟨g1,g2⟩:=jj h B
  cases callee with
  |invoke rc m=>
   rcases n:s.opd rc with _|v1
   ·simp only [n]at hl;exact fE s.boxes hl
   simp only [n]at hl
   have T:=h.opd n
   obtain⟨t,c,f,rfl,a2⟩:=lO hl
   generalize a7:a.eval rc=vrc at T
   cases T with
   |ifc _ _ vc hc=>
    have Q:l.length=args.size:=by simpa using g1
    have E:∀(v0:RV)(w0:Value),R S loc v0 w0->∀(i:Nat)x y,(v0::l)[i]? =some x->(#[w0]++args.map a.eval)[i]? =some y->R S loc x y:=fun v0 w0 h0 i x y G H=>by
     cases i with
     |zero=>
      simp only [AU,AD]at G
      rw [Bp sm]at H
      simp at H
      subst G H
      exact h0
     |succ i=>
      rw [AT]at G
      rw [Bq sm]at H
      exact g2 i x y G (by simpa using H)
    have e1:(#[Value.iface t vc]++Br a.eval args)[0]? =some (.iface t vc):=by rw [Bp sm];rfl
    have e2:(Br a.eval args).extract 0 args.size=Br a.eval args:=by
     apply Bo
     simp only [Array.toList_extract,Bs,List.extract_eq_take_drop,List.drop_zero,Nat.sub_zero]
     exact List.take_of_length_le sm
    rcases a2 with⟨hm,W⟩|⟨e,v0,u0,r1,r2,hm,b2,W⟩
    ·refine dD I h hd C W (vs:= #[vc]++args.map a.eval) (by simp [Q];omega) (E c vc hc) ?_
     rw [<-gL hm (v':=vc) rfl (args.map a.eval)]
     simp [execOp,j,resolve,a7,invoke,e1,e2]
    ·obtain⟨v1,O,b4, -⟩:=gO h b2 hc
     refine dD I h hd C W (vs:= #[v1]++args.map a.eval) (by simp [Q];omega) (E v0 v1 b4) ?_
     rw [<-gL hm (v':=v1) O (args.map a.eval)]
     simp [execOp,j,resolve,a7,invoke,e1,e2]
  |value f=>
   rcases n:s.opd f with _|v1
   ·simp only [n]at hl;exact fE s.boxes hl
   simp only [n]at hl
   by_cases a4:∃g c,v1= .bnd g c
   ·obtain⟨g,c,rfl⟩:=a4
    have T:=h.opd n
    generalize a3:a.eval f=vf at T
    cases T with
    |bnd _ _ u hc=>
     have Q:l.length=args.size:=by simpa using g1
     refine dD I h hd C hl (vs:= #[u]++args.map a.eval) (by simp [Q];omega) (fun i x y G H=>?_) ?_
     ·cases i with
      |zero=>
       simp only [AU,AD]at G
       rw [Bp sm]at H
       simp at H
       subst G H
       exact hc
      |succ i=>
       rw [AT]at G
       rw [Bq sm]at H
       exact g2 i x y G (by simpa using H)
     ·simp only [execOp,j,resolve,a3,Ap,Deferred.ofValue,Ar,Af,invoke]
      simp
   rcases v1 with p|_|_|_|_|_|_|_|_|_|_|⟨g,cs⟩|_<;>first|exact fE s.boxes hl|exact(a4 ⟨_,_,rfl⟩).elim|skip
   rotate_left
   ·have T:=h.opd n
    generalize a3:a.eval f=vf at T
    cases T with
    |clo _ _ caps b0 a9=>
     have Q:l.length=args.size:=by simpa using g1
     refine dD I h hd C hl (vs:=args.map a.eval++caps) (by simp [Q,b0]) (fun i x y G H=>?_) ?_
     ·by_cases hi:i<l.length
      ·rw [List.getElem?_append_left hi]at G
       rw [Bp so]at H
       exact g2 i x y G (by simpa using H)
      ·rw [List.getElem?_append_right om]at G
       rw [Bq so]at H
       have e:(args.map a.eval).size=l.length:=by simp [Q]
       rw [e]at H
       exact a9 _ x y G H
     ·simp only [execOp,j,resolve,a3,Ap,Deferred.ofValue,Ar,Af,invoke]
      simp
   cases p<;>first|exact fE s.boxes hl|skip
   rename_i fv
   have hf:=(h.opd n).raw_inv
   cases fv<;>first|exact fE s.boxes hl|skip
   rename_i fn first captured
   cases fn<;>first|exact fE s.boxes hl|skip
   rename_i g
   obtain⟨fl⟩:=first
   obtain⟨cl⟩:=captured
   rcases fl with _|⟨f0,_|⟨f1,fl⟩⟩
   rotate_left
   ·cases f0<;>first|exact fE s.boxes hl|skip
    rename_i fa
    obtain⟨fa⟩:=fa
    cases fa<;>first|exact fE s.boxes hl|skip
    cases cl<;>first|exact fE s.boxes hl|skip
    have Q:l.length=args.size:=by simpa using g1
    refine dD I h hd C hl (vs:= #[.agg #[]]++args.map a.eval) (by simp [Q];omega) (fun i x y G H=>?_) ?_
    ·cases i with
     |zero=>
      simp only [AU,AD]at G
      rw [Bp sm]at H
      simp at H
      subst G H
      exact .d (.agg [] #[] rfl (fun i p v hp=>by simp at hp))
     |succ i=>
      rw [AT]at G
      rw [Bq sm]at H
      exact g2 i x y G (by simpa using H)
    ·simp only [execOp,j,resolve,hf,Ap,Deferred.ofValue,Ar,Af,invoke]
     simp
   ·cases f0<;>first|exact fE s.boxes hl|skip
    all_goals (try(exact fE s.boxes hl))
    all_goals (rename_i fa;obtain⟨fa⟩:=fa;cases fa<;>exact fE s.boxes hl)
   cases cl<;>first|exact fE s.boxes hl|skip
   have O:(execOp a.eval o).run P w=(callFunc g (args.map a.eval)).run P w:=by
    simp only [execOp,j,resolve,hf,Ap,Deferred.ofValue,Ar,Af,invoke]
    simp
   cases a5:mt.lit (o.dst.getD 0+2097152)with
   |true=>
    simp only [a5,iG]at hl
    exact mh hl fun v0 r0 b1=>dD I h hd C b1 (vs:=args.map a.eval) (by simpa using g1) (fun i x y G H=>g2 i x y G (by simpa using H)) O
   |false=>
    simp only [a5,iG]at hl
    exact dD I h hd C hl (vs:=args.map a.eval) (by simpa using g1) (fun i x y G H=>g2 i x y G (by simpa using H)) O
  |builtin b=>
   cases b<;>first|exact fE s.boxes hl|skip
   case append=>
    rcases l with _|⟨x,_|⟨y,_|⟨z,l⟩⟩⟩<;>first|exact fE s.boxes hl|skip
    by_cases hsz:argTypes.size=2
    rotate_left
    ·simp only [hsz,if_false]at hl;exact fE s.boxes hl
    simp only [hsz,if_true]at hl
    obtain⟨J,U,E⟩:∃J U,args.toList=[J,U]:=by
     rcases Y:args.toList with _|⟨p,_|⟨q,_|⟨z,l⟩⟩⟩<;>simp [Y]at g1
     exact⟨p,q,rfl⟩
    have F:args= #[J,U]:=by apply Bo;exact E
    subst F
    obtain⟨t1,t2,N⟩:∃t1 t2,argTypes= #[t1,t2]:=by
     obtain⟨l⟩:=argTypes
     rcases l with _|⟨p,_|⟨q,_|⟨z,l⟩⟩⟩<;>simp at hsz
     exact⟨p,q,rfl⟩
    subst N
    have G:=g2 0 x (a.eval J) rfl rfl
    have H:=g2 1 y (a.eval U) rfl rfl
    by_cases a1:t1=t2
    rotate_left
    ·have W:jv P (o.dst.getD 0*16) t1 t2 x y s.boxes=some ((v,u),r,true):=by
      rw [if_neg (show ¬(#[t1,t2]:Array TypeId).getD 0 0=(#[t1,t2]:Array TypeId).getD 1 0 from a1)]at hl
      exact hl
     obtain⟨v',w',loc',n,D,L⟩:=ma (ty:=o.type) h W G H
     refine eM.value hd C (v':=v') (w':=w') ?_ D L
     simp only [execOp,j,resolve,Ap,Ar,Af,invoke,builtin,Bl,Bj,Bk]
     have K:(Builtin.append_ #[t1,t2] o.type #[a.eval J,a.eval U]).run P w= .ok v' w':=n
     rw [K]
     rfl
    rw [if_pos (show(#[t1,t2]:Array TypeId).getD 0 0=(#[t1,t2]:Array TypeId).getD 1 0 from a1)]at hl
    replace hl:dI P (o.dst.getD 0*16) t1 t2 x y s.boxes=some ((v,u),r,true):=hl
    obtain⟨N,v',w',S',loc',n,D,L⟩:=kL (ty:=o.type) h hl G H
    subst N
    refine eM.value hd C (v':=v') (w':=w') ?_ D L
    simp only [execOp,j,resolve,Ap,Ar,Af,invoke,builtin,Bl,Bj,Bk]
    have K:(Builtin.append_ #[t1,t1] o.type #[a.eval J,a.eval U]).run P w= .ok v' w':=n
    rw [K]
    rfl
   case copy=>
    rcases l with _|⟨x,_|⟨y,_|⟨z,l⟩⟩⟩<;>first|exact fE s.boxes hl|skip
    by_cases hsz:argTypes.size=2
    rotate_left
    ·simp only [hsz,if_false]at hl;exact fE s.boxes hl
    simp only [hsz,if_true]at hl
    obtain⟨J,U,E⟩:∃J U,args.toList=[J,U]:=by
     rcases Y:args.toList with _|⟨p,_|⟨q,_|⟨z,l⟩⟩⟩<;>simp [Y]at g1
     exact⟨p,q,rfl⟩
    have F:args= #[J,U]:=by apply Bo;exact E
    subst F
    obtain⟨t1,t2,N⟩:∃t1 t2,argTypes= #[t1,t2]:=by
     obtain⟨l⟩:=argTypes
     rcases l with _|⟨p,_|⟨q,_|⟨z,l⟩⟩⟩<;>simp at hsz
     exact⟨p,q,rfl⟩
    subst N
    have G:=g2 0 x (a.eval J) rfl rfl
    have H:=g2 1 y (a.eval U) rfl rfl
    replace hl:jy P t1 x y s.boxes=some ((v,u),r,true):=hl
    obtain⟨v',w',S',loc',n,D,L⟩:=mn (t':=t2) (ty:=o.type) h hl G H
    refine eM.value hd C (v':=v') (w':=w') ?_ D L
    simp only [execOp,j,resolve,Ap,Ar,Af,invoke,builtin,Bl,Bj,Bk]
    have K:(Builtin.copy_ #[t1,t2] o.type #[a.eval J,a.eval U]).run P w= .ok v' w':=n
    rw [K]
    rfl
   case clear=>
    rcases l with _|⟨x,_|⟨y,l⟩⟩<;>first|exact fE s.boxes hl|skip
    obtain⟨J,E⟩:∃J,args.toList=[J]:=by
     rcases Y:args.toList with _|⟨p,_|⟨q,l⟩⟩<;>simp [Y]at g1
     exact⟨p,rfl⟩
    have F:args= #[J]:=by apply Bo;exact E
    subst F
    have G:=g2 0 x (a.eval J) rfl rfl
    by_cases hsz:argTypes.size=1
    rotate_left
    ·simp only [hsz,if_false]at hl;exact fE s.boxes hl
    simp only [hsz,if_true]at hl
    obtain⟨t1,N⟩:∃t1,argTypes= #[t1]:=by
     obtain⟨l⟩:=argTypes
     rcases l with _|⟨p,_|⟨q,l⟩⟩<;>simp at hsz
     exact⟨p,rfl⟩
    subst N
    replace hl:gM P t1 x s.boxes=some ((v,u),r,true):=hl
    obtain⟨v',w',S',loc',n,D,L⟩:=lz (ty:=o.type) h hl G
    refine eM.value hd C (v':=v') (w':=w') ?_ D L
    simp only [execOp,j,resolve,Ap,Ar,Af,invoke,builtin,Bl,Bj,Bk]
    have K:(Builtin.clear_ #[t1] o.type #[a.eval J]).run P w= .ok v' w':=n
    rw [K]
    rfl
   case min=>
    obtain⟨v',n,D,rfl⟩:=nD (P:=P) (w:=w) (ts:=argTypes) (ty:=o.type) (vs:=args.map a.eval) hl (by simpa using g1) (fun i x y G H=>g2 i x y G (by simpa using H))
    refine eM.value hd C (v':=v') (w':=w) ?_ h D
    simp only [execOp,j,resolve,Ap,Ar,Af,invoke,builtin]
    rw [n]
    rfl
   case max=>
    obtain⟨v',n,D,rfl⟩:=nC (P:=P) (w:=w) (ts:=argTypes) (ty:=o.type) (vs:=args.map a.eval) hl (by simpa using g1) (fun i x y G H=>g2 i x y G (by simpa using H))
    refine eM.value hd C (v':=v') (w':=w) ?_ h D
    simp only [execOp,j,resolve,Ap,Ar,Af,invoke,builtin]
    rw [n]
    rfl
   case cap=>
    rcases l with _|⟨x,_|⟨y,l⟩⟩<;>first|exact fE s.boxes hl|skip
    obtain⟨J,E⟩:∃J,args.toList=[J]:=by
     rcases Y:args.toList with _|⟨p,_|⟨q,l⟩⟩<;>simp [Y]at g1
     exact⟨p,rfl⟩
    have F:args= #[J]:=by apply Bo;exact E
    subst F
    have G:=g2 0 x (a.eval J) rfl rfl
    by_cases hsz:argTypes.size=1
    rotate_left
    ·simp only [hsz,if_false]at hl;exact fE s.boxes hl
    simp only [hsz,if_true]at hl
    obtain⟨t1,N⟩:∃t1,argTypes= #[t1]:=by
     obtain⟨l⟩:=argTypes
     rcases l with _|⟨p,_|⟨q,l⟩⟩<;>simp at hsz
     exact⟨p,rfl⟩
    subst N
    obtain⟨v',n,D,rfl⟩:=nf (ty:=o.type) h hl G
    refine eM.value hd C (v':=v') (w':=w) ?_ h D
    simp only [execOp,j,resolve,Ap,Ar,Af,invoke,builtin,Bl,Bj,Bk]
    have K:(Builtin.cap_ #[t1] o.type #[a.eval J]).run P w= .ok v' w:=n
    rw [K]
    rfl
   case len=>
    rcases l with _|⟨x,_|⟨y,l⟩⟩<;>first|exact fE s.boxes hl|skip
    obtain⟨J,E⟩:∃J,args.toList=[J]:=by
     rcases Y:args.toList with _|⟨p,_|⟨q,l⟩⟩<;>simp [Y]at g1
     exact⟨p,rfl⟩
    have F:args= #[J]:=by apply Bo;exact E
    subst F
    have G:=g2 0 x (a.eval J) rfl rfl
    by_cases hsz:argTypes.size=1
    rotate_left
    ·simp only [hsz,if_false]at hl;exact fE s.boxes hl
    simp only [hsz,if_true]at hl
    obtain⟨t1,N⟩:∃t1,argTypes= #[t1]:=by
     obtain⟨l⟩:=argTypes
     rcases l with _|⟨p,_|⟨q,l⟩⟩<;>simp at hsz
     exact⟨p,rfl⟩
    subst N
    obtain⟨v',n,D,rfl⟩:=nz (ty:=o.type) h hl G
    refine eM.value hd C (v':=v') (w':=w) ?_ h D
    simp only [execOp,j,resolve,Ap,Ar,Af,invoke,builtin,Bl,Bj,Bk]
    have K:(Builtin.len_ #[t1] o.type #[a.eval J]).run P w= .ok v' w:=n
    rw [K]
    rfl
end
end Go.Dw
