
import Derived.Test.YtomapcboiinfdaaGreatDwIfc
import Derived.Test.YtomapcboiinfdaaGreatDwEq
import Derived.Lib.ConvBytes
import Derived.Laws.IdiomStrings
import Derived.Laws.BytesArg
set_option linter.unusedVariables false
set_option linter.unusedSimpArgs false
open Option.some renaming injEq->AD
open List renaming getD->A9, getElem?_cons_succ->AS, getElem?_cons_zero->AT, getElem?_map->Ap, length_map->BY, map_cons->B2, map_nil->B3, map_toArray->B4, mem_of_getElem?->A0
open Prod.mk renaming injEq->AF
open Go.Sem renaming run_bind->Ai, run_pure->Ak
open Nat renaming add_zero->Al, mul_one->B5
open Array renaming eq_empty_of_size_eq_zero->B6, ext'->B7, getElem?_append_left->B8, getElem?_append_right->B9, map->Ba, toList_map->Bb
open Go.Result renaming andThen_ok->A8

namespace Go.Dw
section
variable {P:Program}{X:Ctx}{S:mW}{loc:nB}{s:St}{w:World}{a:Act}
theorem um(h:Sim P X S loc s a.tmps w):∀{xs:List Operand}{l:List RV},oR s xs=some l->l.length=xs.length∧∀(i:Nat)x v,l[i]? =some x->(xs.map a.eval)[i]? =some v->R S loc x v
 | [],l,b=>by
  simp only [oR,AD]at b
  subst b
  exact⟨rfl,fun i x v f=>by simp at f⟩
 |x::xs,l,b=>by
  simp only [oR]at b
  rcases h1:s.opd x with _|v
  ·simp [h1]at b
  rcases e:oR s xs with _|r
  ·simp [h1,e]at b
  simp only [h1,e,AD]at b
  subst b
  obtain⟨g1,g2⟩:=um h e
  refine⟨by simp [g1],fun i y u c hu=>?_⟩
  cases i with
  |zero=>
   simp only [AT,AD,B2]at c hu
   subst c;subst hu
   exact h.opd h1
  |succ i=>simp only [AS,B2]at c hu;exact g2 i y u c hu
theorem qy(h:Sim P X S loc s a.tmps w):∀{xs:List (Nat×Operand)}{l:List (Nat×RV)},oe s xs=some l->xi S loc l (xs.map fun(i,x)=>(i,a.eval x))
 | [],l,b=>by
  simp only [oe,AD]at b
  subst b
  exact⟨rfl,fun i x v f=>by simp at f⟩
 |(k,x)::xs,l,b=>by
  simp only [oe]at b
  rcases h1:s.opd x with _|v
  ·simp [h1]at b
  rcases e:oe s xs with _|r
  ·simp [h1,e]at b
  simp only [h1,e,AD]at b
  subst b
  obtain⟨g1,g2⟩:=qy h e
  refine⟨by simpa using g1,fun i y u c hu=>?_⟩
  cases i with
  |zero=>
   simp only [AT,AD,B2]at c hu
   subst c;subst hu
   exact⟨rfl,h.opd h1⟩
  |succ i=>simp only [AS,B2]at c hu;exact g2 i y u c hu
theorem oP(h:Sim P X S loc s a.tmps w){x:Option Operand}{v:Option RV}(b:nY s x=some v):RO S loc v (x.map a.eval):=by
 cases x with
 |none=>simp only [nY,AD]at b;subst b;exact .none
 |some x=>
  simp only [nY]at b
  rcases h1:s.opd x with _|r
  ·simp [h1]at b
  simp only [h1,AD]at b
  subst b
  exact .some (h.opd h1)
theorem xx{src dst:TypeId}{x:RV}{p:PD}{v:Value}(h:convD P src dst x=some (p,true))(c:R S loc x v):∃v',(convert src dst v).run P w= .ok v' w∧V S p v':=by
 unfold convD at h
 rcases h1:P.underlying src with _|d1
 ·simp [h1]at h
 rcases b:P.underlying dst with _|d2
 ·cases d1<;>simp [h1,b]at h
 cases d1<;>cases d2<;>first|(simp [h1,b]at h;done)|skip
 all_goals (rcases x with e|_|_|_|_|_|_|_|_|_|_|_|_<;>first|(simp [h1,b]at h;done)|skip)
 all_goals (cases e<;>first|(simp [h1,b]at h;done)|skip)
 ·simp only [h1,b,AD,AF,and_true]at h
  subst h
  have:=c.np
  subst this
  exact⟨_,by simp [convert,run_underlying h1,run_underlying b,Conv.intToInt],.int _ _⟩
 ·simp only [h1,b,AD,AF,and_true]at h
  subst h
  have:=c.rC
  subst this
  exact⟨_,by simp [convert,run_underlying h1,run_underlying b],.str _⟩
theorem yj(w:World)(e:TypeId)(b:ByteArray):Step none w (Lib.bytesWorld w e b):=
 ⟨rfl,rfl,rfl,by rw [Lib.bytesWorld_size];omega,fun j c _=>Lib.bytesWorld_at_old w e b j c,Nat.le_succ _⟩
theorem xv(P:Program)(id:Nat)(src dst:TypeId)(x:RV):(∃e str,P.underlying src=some .string∧P.underlying dst=some (.slice e)∧x= .d (.str str))∨(∃e i ver,P.underlying src=some (.slice e)∧P.underlying dst=some .string∧x= .ref i ver)∨(∃e es,P.underlying src=some (.slice e)∧P.underlying dst=some .string∧x= .d (.lst es))∨
  rF P id src dst x=rJ (convD P src dst x):=by
 unfold rF
 split
 ·exact .inl ⟨_,_,by assumption,by assumption,rfl⟩
 ·exact .inr (.inl ⟨_,_,_,by assumption,by assumption,rfl⟩)
 ·exact .inr (.inr (.inl ⟨_,_,by assumption,by assumption,rfl⟩))
 ·exact .inr (.inr (.inr rfl))
theorem yo(h:Sim P X S loc s a.tmps w){src dst e:TypeId}{g:List Int}{r:Value}(p:P.underlying src=some (.slice e))(he:P.underlying e=some (.int .u8))(n:P.underlying dst=some .string)(q:V S (.lst (g.map (.int .u8))) r):
  (convert src dst r).run P w= .ok (.string ⟨(strU g).toArray⟩) w:=by
 generalize j:g.map (PD.int .u8)=es at q
 cases q with
 |nil a c=>
  obtain rfl:=List.map_eq_nil_iff.1 j
  rw [run_convert_bytes_string w src dst e a 0 c p he n]
  cases a<;>simp [Conv.bytesToString,loadCells,loadCellsFrom,strU,Ak]<;>rfl
 |lst _ b o c sz f v k hS hV=>
  subst j
  rw [BY]
  refine run_convert_bytes_arg w src e p he b o g.length c g rfl (fun i hi=>?_) dst n
  have h1:(g.map (PD.int .u8))[i]? =some (.int .u8 g[i]):=by simp [hi]
  have t:sz=1:=by rw [<-k _ (A0 h1)];rfl
  subst t
  have l:=h.imm _ _ (hS i _ 0 _ h1 rfl)
  have m:=(hV i _ 0 _ h1 rfl)
  rw [B5,Al]at l
  rw [l]
  generalize f i 0=u at m
  cases m
  simp [A9,hi]
theorem conv_row(h:Sim P X S loc s a.tmps w){src dst e v:TypeId}{i ver:Nat}{b:List Int}{t:Value}(r:P.underlying src=some (.slice e))(he:P.underlying e=some (.int .u8))(o:P.underlying dst=some .string)
  (y:s.boxes i=some (.arr ver v (b.map (.int .u8)))) (B:R S loc (.ref i ver) t):
  (convert src dst t).run P w= .ok (.string ⟨(strU b).toArray⟩) w:=by
 obtain⟨sz,xs,q,z,how,hf⟩:=h.qu y B
 by_cases k:b=[]
 ·subst k
  obtain⟨l,c,rfl,_⟩:=how.hdr
  rw [B3,List.length_nil,run_convert_bytes_string w src dst e l 0 c r he o]
  cases l<;>simp [Conv.bytesToString,loadCells,loadCellsFrom,strU,Ak]<;>rfl
 ·have f:0<b.length:=by cases b with|nil=>exact(k rfl).elim|cons=>simp
  have how:=how.qN (by simpa using f)
  obtain⟨g,c,rfl⟩:=pE how (by simpa using f)
  rw [BY]
  refine run_convert_bytes_arg w src e r he g 0 b.length c b rfl (fun j p=>?_) dst o
  have h1:(b.map (PD.int .u8))[j]? =some (.int .u8 b[j]):=by simp [p]
  have C:sz=1:=by rw [<-hf.len _ (A0 h1)];rfl
  subst C
  obtain⟨u,m,x⟩:=hf.cell j _ 0 _ h1 rfl
  rw [B5,Al]at m
  have n:=how.cells (g:=g) rfl j u m
  rw [nO]at n
  rw [n]
  cases x
  simp [A9,p]
theorem xw(h:Sim P X S loc s a.tmps w){id:Nat}{src dst:TypeId}{x v:RV}{u:Ups}{r:List Nat}{O:Value}(c:rF P id src dst x s.boxes=some ((v,u),r,true))(K:R S loc x O):
  ∃v' w' loc',(convert src dst O).run P w= .ok v' w'∧Sim P X S loc' (s.ups u) a.tmps w'∧R S loc' v v':=by
 rcases xv P id src dst x with⟨e,str,t,n,rfl⟩|⟨e,i,ver,t,n,rfl⟩|⟨e,es,t,n,rfl⟩|L
 ·unfold rF at c
  simp only [t,n]at c
  by_cases he:P.underlying e=some (.int .u8)
  ·simp only [he]at c
   obtain⟨_,r1,r2,h1,l,_⟩:=M.bind_some c
   obtain⟨D,_,_⟩:=M.nJ h1
   obtain⟨z, -,L⟩:=M.mP l
   cases z
   have T:=K.rC
   subst T
   obtain⟨hz,hlen⟩:=of_decide_eq_true L.symm
   have C:ByteArray.size ⟨str.toArray⟩=str.length:=by simp [ByteArray.size]
   have F:=grownCap_ge w (ByteArray.size ⟨str.toArray⟩) 0 e
   have m:=grownCap_le_maxLen w (ByteArray.size ⟨str.toArray⟩) 0 e (by rw [C];simp only [maxLen];omega)
   have o:=Lib.run_convert_string_bytes (P:=P) w src dst e ⟨str.toArray⟩ t n he
   have G:=Lib.bytesWorld_at_new w e ⟨str.toArray⟩
   rw [C]at F m o
   have E:(Lib.bytesCells w e ⟨str.toArray⟩).size=grownCap w str.length 0 e:=by
    simp only [Lib.bytesCells,Array.size_append,Array.size_map,Array.size_replicate,C]
    simp;omega
   obtain⟨loc',h1,l,_⟩:=h.sb (P:=P) (w':=Lib.bytesWorld w e ⟨str.toArray⟩) (es:=str.map fun b=>.int .u8 b.toNat) (xs:=str.map fun b=>.int .u8 b.toNat) D (yj w e _) hz
    (hdr:= .slice (some ⟨w.heap.size,0,none⟩) str.length (grownCap w str.length 0 e))
    (.inl ⟨sm, .inr ⟨w.heap.size, _, _, _, sm, .inr ⟨E, rfl⟩, G, by simpa using F, m, by simpa using E, by
     simp only [Lib.bytesCells,BY,B5,Array.toList_append,Bb]
     exact List.take_left' sm⟩⟩)
    ⟨by simp [PD.cells], by simp; intro a _; rfl, fun i y j x hi N => by
     rw [Ap,Option.map_eq_some_iff]at hi
     obtain⟨b,D,rfl⟩:=hi
     cases j with
     |succ j=>simp [PD.cells]at N
     |zero=>
      simp only [PD.cells,AT,AD]at N
      subst N
      exact⟨_,by rw [B5,Al,Ap,D];rfl,.int _ _⟩⟩
    (fun g I => by
     unfold nT at I
     split at I
     ·rename_i h1
      simp only [Value.slice.injEq,AD]at h1
      obtain⟨h1, -⟩:=h1
      subst h1
      cases I
      exact Nat.le_refl _
     ·cases I) rfl
   exact⟨_,_,loc',o,h1,l⟩
  ·rcases f:P.underlying e with _|q
   ·simp only [f]at c;exact fE s.boxes c
   ·cases q<;>first|(simp only [f]at c;exact fE s.boxes c)|skip
    rename_i k
    cases k<;>first|exact(he f).elim|(simp only [f]at c;exact fE s.boxes c)
 ·unfold rF at c
  simp only [t,n]at c
  by_cases he:P.underlying e=some (.int .u8)
  ·simp only [he]at c
   obtain⟨Q,r1,r2,h1,l,_⟩:=M.bind_some c
   obtain⟨D,_,_⟩:=M.get_some h1
   cases Q<;>first|exact fE s.boxes l|skip
   rename_i H e' es
   by_cases J:ver=H
   rotate_left
   ·simp only [J,if_false]at l;exact fE s.boxes l
   subst J
   simp only [if_true]at l
   rcases B:u8s es with _|ns
   ·simp only [B]at l;exact fE s.boxes l
   simp only [B]at l
   obtain⟨z, -, -⟩:=mQ l
   cases z
   obtain rfl:=we B
   exact⟨_,w,loc,conv_row h t he n D K,h,.d (.str _)⟩
  ·rcases f:P.underlying e with _|q
   ·simp only [f]at c;exact fE s.boxes c
   ·cases q<;>first|(simp only [f]at c;exact fE s.boxes c)|skip
    rename_i k
    cases k<;>first|exact(he f).elim|(simp only [f]at c;exact fE s.boxes c)
 ·unfold rF at c
  simp only [t,n]at c
  by_cases he:P.underlying e=some (.int .u8)
  ·simp only [he]at c
   rcases B:u8s es with _|ns
   ·simp only [B]at c;exact fE s.boxes c
   simp only [B]at c
   obtain⟨z, -, -⟩:=mQ c
   cases z
   obtain rfl:=we B
   cases K with
   |d J=>exact⟨_,w,loc,yo h t he n J,h,.d (.str _)⟩
  ·rcases f:P.underlying e with _|q
   ·simp only [f]at c;exact fE s.boxes c
   ·cases q<;>first|(simp only [f]at c;exact fE s.boxes c)|skip
    rename_i k
    cases k<;>first|exact(he f).elim|(simp only [f]at c;exact fE s.boxes c)
 ·rw [L]at c
  obtain⟨p,z,W, -⟩:=rr c
  cases W
  obtain⟨v',Y,h6⟩:=xx (P:=P) (w:=w) z K
  exact⟨v',w,loc,Y,h,.d h6⟩
theorem yu{mt:Hf}{call:ng}(N:oO P X.base call){o:Oper}(hS:qt P X s a w)(D:∀d,o.dst=some d->d<X.nt){v:RV}{u:Ups}{r:List Nat}
  (j:nw P mt call s o s.boxes=some ((v,u),r,true)):qA P X ((s.ups u).put o.dst v) o a w:=by
 obtain⟨T,S,loc,h⟩:=hS
 have pure_:∀{v':Value},(execOp a.eval o).run P w= .ok (.value v') w->R S loc v v'->u=[]->qA P X ((s.ups u).put o.dst v) o a w:=by
  intro v' a6 Y hu
  subst hu
  exact qA.value T D a6 h Y
 have val:∀{m:Sem Value}{v':Value}{w':World}{S':mW}{loc':nB},(execOp a.eval o)=(do pure (.value (<-m)))->m.run P w= .ok v' w'->Sim P X S' loc' (s.ups u) a.tmps w'->R S' loc' v v'->qA P X ((s.ups u).put o.dst v) o a w:=by
  intro m v' w' S' loc' he hm hs Y
  refine qA.value T D (v':=v') (w':=w') ?_ hs Y
  rw [he]
  simp [hm]
 unfold nw at j
 rcases n:o.op with x|x|⟨c,x,y⟩|t|⟨t,x⟩|⟨t,parts⟩|⟨t,len,parts⟩|⟨t,m,k,x⟩|⟨t,x⟩|⟨t,x,y⟩|g|g|x|⟨op,t,x,y,t2⟩|⟨op,t,x⟩|⟨t,t2,x⟩|⟨t,x⟩|⟨t,x⟩|⟨fn,x,y⟩|⟨t,x⟩|⟨t,x⟩|⟨t,x,y⟩|⟨t,x,lo,hi,mx⟩|⟨t,x,f⟩|⟨t,x,f⟩|⟨t,x,y⟩|⟨t,x,y⟩|⟨t,x,y,c⟩|⟨t,x,y,c⟩|⟨t,x,y⟩|⟨t,x,y,c⟩|⟨t,x⟩|⟨x,b⟩|x|⟨x,t,t2,b⟩|⟨x,i⟩|c|c|c|x|⟨x,y⟩|⟨t,x,b⟩|⟨cs,b⟩
 all_goals (simp only [n]at j)
 all_goals first|exact fE s.boxes j|skip
 ·rcases h1:s.opd x with _|v1
  ·simp only [h1]at j;exact fE s.boxes j
  simp only [h1]at j
  obtain⟨C, -, -⟩:=mQ j
  cases C
  exact pure_ (by simp [execOp,n]) (h.opd h1) rfl
 ·rcases h1:s.opd x with _|v1
  ·simp only [h1]at j;exact fE s.boxes j
  simp only [h1]at j
  obtain⟨C, -, -⟩:=mQ j
  cases C
  exact pure_ (by simp [execOp,n]) (h.opd h1) rfl
 ·rcases h1:s.opd c with _|v1
  ·simp only [h1]at j;exact fE s.boxes j
  rw [h1]at j
  rcases v1 with p|_|_|_|_|_|_|_|_|_|_|_|_<;>first|exact fE s.boxes j|skip
  cases p<;>first|exact fE s.boxes j|skip
  rename_i b
  have hb:=(h.opd h1).pA
  cases b
  ·rcases C:s.opd y with _|v2
   ·simp only [C,Bool.false_eq_true,if_false]at j;exact fE s.boxes j
   simp only [C,Bool.false_eq_true,if_false]at j
   obtain⟨B, -, -⟩:=mQ j
   cases B
   exact pure_ (by simp [execOp,n,hb,asBool]) (h.opd C) rfl
  ·rcases C:s.opd x with _|v2
   ·simp only [C,if_true]at j;exact fE s.boxes j
   simp only [C,if_true]at j
   obtain⟨B, -, -⟩:=mQ j
   cases B
   exact pure_ (by simp [execOp,n,hb,asBool]) (h.opd C) rfl
 ·obtain⟨v',w',loc',h1,C,B⟩:=wO h j
  exact val (by simp only [execOp,n]) h1 C B
 ·rcases h1:s.opd x with _|v1
  ·simp only [h1]at j;exact fE s.boxes j
  simp only [h1]at j
  obtain⟨v',w',loc',h1,C,B⟩:=yh (t:=t) h j (h.opd h1)
  exact val (by simp only [execOp,n]) h1 C B
 ·rcases h1:oe s parts.toList with _|l
  ·simp only [h1]at j;exact fE s.boxes j
  simp only [h1]at j
  have hp:=qy h h1
  obtain⟨v',C,B,rfl⟩:=wR (P:=P) (w:=w) (pvs:=parts.map fun(i,x)=>(i,a.eval x)) j (by simpa using hp)
  exact val (S':=S) (loc':=loc) (by simp only [execOp,n]) C h B
 ·rcases h1:oe s parts.toList with _|l
  ·simp only [h1]at j;exact fE s.boxes j
  simp only [h1]at j
  have hp:=qy h h1
  obtain⟨v',w',S',loc',C,B,G⟩:=tH (pvs:=parts.map fun(i,x)=>(i,a.eval x)) h j (by simpa using hp)
  exact val (by simp only [execOp,n]) C B G
 ·rcases h1:s.opd x with _|v1
  ·simp only [h1]at j;exact fE s.boxes j
  simp only [h1]at j
  obtain⟨v',C,B,rfl⟩:=rY h j (h.opd h1)
  exact val (S':=S) (loc':=loc) (by simp only [execOp,n]) C h B
 ·rcases h1:s.opd x with _|v1
  ·simp only [h1]at j;exact fE s.boxes j
  rcases C:s.opd y with _|v2
  ·simp only [h1,C]at j;exact fE s.boxes j
  simp only [h1,C]at j
  obtain⟨w',S',loc',B,G,rfl⟩:=xf h j (h.opd h1) (h.opd C)
  exact qA.skip T D (w':=w') (by simp [execOp,n,B]) G
 ·rcases h1:s.opd x with _|v1
  ·simp only [h1]at j;exact fE s.boxes j
  simp only [h1]at j
  obtain⟨ad,he,C,rfl,_⟩:=rZ h j (h.opd h1)
  refine pure_ (v':= .pointer (some ad)) (by simp [execOp,n,he]) ?_ rfl
  rwa [Addr.add_zero']at C
 ·rcases h1:s.opd x with _|v1
  ·simp only [h1]at j;exact fE s.boxes j
  rcases C:s.opd y with _|v2
  ·simp only [h1,C]at j;exact fE s.boxes j
  simp only [h1,C]at j
  obtain⟨p,B,G, -⟩:=rr j
  cases G
  obtain⟨v',Q,h6⟩:=yg (P:=P) (w:=w) t x y B (h.opd h1) (h.opd C)
  exact val (S':=S) (loc':=loc) (by simp only [execOp,n]) Q h (.d h6)
 ·cases op with
  |not=>
   rcases h1:s.opd x with _|v1
   ·simp only [h1]at j;exact fE s.boxes j
   simp only [h1]at j
   obtain⟨p,B,G, -⟩:=rr j
   cases G
   rcases v1 with p'|_|_|_|_|_|_|_|_|_|_|_|_<;>first|(simp [notD]at B;done)|skip
   cases p'<;>first|(simp [notD]at B;done)|skip
   simp only [notD,AD,AF,and_true]at B
   subst B
   have hb:=(h.opd h1).pA
   exact val (S':=S) (loc':=loc) (m:=Op.unary .not (a.eval x)) (by simp only [execOp,n]) (by rw [hb];rfl) h (.d (.bool _))
  |neg=>
   rcases h1:s.opd x with _|v1
   ·simp only [h1]at j;exact fE s.boxes j
   simp only [h1]at j
   obtain⟨p,B,G, -⟩:=rr j
   cases G
   rcases v1 with p'|_|_|_|_|_|_|_|_|_|_|_|_<;>first|(simp [negD]at B;done)|skip
   cases p'<;>first|(simp [negD]at B;done)|skip
   simp only [negD,AD,AF,and_true]at B
   subst B
   have hb:=(h.opd h1).np
   exact val (S':=S) (loc':=loc) (m:=Op.unary .neg (a.eval x)) (by simp only [execOp,n]) (by rw [hb];rfl) h (.d (.int _ _))
  |xor=>exact fE s.boxes j
  |plus=>exact fE s.boxes j
 ·rcases h1:s.opd x with _|v1
  ·simp only [h1]at j;exact fE s.boxes j
  simp only [h1]at j
  obtain⟨v',w',loc',Q,h6,h7⟩:=xw h j (h.opd h1)
  exact val (S':=S) (loc':=loc') (by simp only [execOp,n]) Q h6 h7
 ·rcases h1:s.opd x with _|v1
  ·simp only [h1]at j;exact fE s.boxes j
  simp only [h1]at j
  obtain⟨v',B,G,rfl⟩:=yx (w:=w) j (h.opd h1)
  exact val (S':=S) (loc':=loc) (by simp only [execOp,n]) B h G
 ·rcases C:oR s y.toList with _|l
  ·simp only [C]at j;exact fE s.boxes j
  simp only [C]at j
  obtain⟨fl⟩:=x
  cases fn<;>first|exact fE s.boxes j|skip
  rename_i g
  obtain⟨g1,g2⟩:=um h C
  rcases fl with _|⟨x0,_|⟨x1,fl⟩⟩<;>first|exact fE s.boxes j|skip
  rotate_left
  ·simp only at j
   rcases B:s.opd x0 with _|rv
   ·simp only [B]at j;exact fE s.boxes j
   rw [B]at j
   rcases rv with p|_|_|_|_|_|_|_|_|_|_|_|_<;>first|exact fE s.boxes j|skip
   cases p<;>first|exact fE s.boxes j|skip
   rename_i cs
   cases cs<;>first|exact fE s.boxes j|skip
   cases l<;>first|exact fE s.boxes j|skip
   obtain⟨G, -, -⟩:=mQ j
   cases G
   have c0:a.eval x0= .agg #[]:=by
    have:=h.opd B
    generalize a.eval x0=q at this
    cases this with
    |d hh=>cases hh with
     |agg _ vs b6 _=>
      have hz:vs= #[]:=B6 (by simpa using b6)
      rw [hz]
   have J:y= #[]:=B6 (by simpa using g1.symm)
   subst J
   refine val (S':=S) (loc':=loc) (v':= .func (.func g) #[.agg #[]] #[]) (w':=w) (m:=Instr.makeFunc (.func g) #[.agg #[]] #[]) (by simp [execOp,n,c0]) rfl h (.d (.raw _ rfl))
  obtain⟨B, -, -⟩:=mQ j
  cases B
  refine val (S':=S) (loc':=loc) (v':= .func (.func g) #[] (y.map a.eval)) (w':=w) (m:=Instr.makeFunc (.func g) #[] (y.map a.eval)) (by simp only [execOp,n,B4,B3]) rfl h ?_
  exact .clo g l _ (by simpa using g1.symm) (fun i c u hc hu=>g2 i c u hc (by simpa using hu))
 ·rcases h1:nY s x with _|v1
  ·simp only [h1]at j;exact fE s.boxes j
  rw [h1]at j
  cases v1 with
  |some _=>exact fE s.boxes j
  |none=>
   simp only at j
   have I:x=none:=by
    cases x with
    |none=>rfl
    |some y=>simp only [nY]at h1;split at h1<;>cases h1
   subst I
   obtain⟨v',w',loc',C,B,G⟩:=vL h j
   exact val (by simp only [execOp,n,Option.map_none]) C B G
 ·rcases h1:s.opd x with _|v1
  ·simp only [h1]at j;exact fE s.boxes j
  rcases C:s.opd y with _|v2
  ·simp only [h1,C]at j;exact fE s.boxes j
  simp only [h1,C]at j
  obtain⟨v',w',loc',B,G,Q⟩:=uj h j (h.opd h1) (h.opd C)
  exact val (by simp only [execOp,n]) B G Q
 ·rcases h1:s.opd x with _|v1
  ·simp only [h1]at j;exact fE s.boxes j
  rcases C:nY s lo with _|v2
  ·simp only [h1,C]at j;exact fE s.boxes j
  rcases B:nY s hi with _|v3
  ·simp only [h1,C,B]at j;exact fE s.boxes j
  rcases G:nY s mx with _|v4
  ·simp only [h1,C,B,G]at j;exact fE s.boxes j
  simp only [h1,C,B,G]at j
  split at j
  ·obtain⟨v',S',loc',Q,h6,h7⟩:=xU h j (h.opd h1) (oP h C) (oP h B) (oP h G)
   exact val (S':=S') (loc':=loc') (by simp only [execOp,n]) Q h6 h7
  ·obtain⟨v',S',loc',Q,h6,h7⟩:=xd h j (h.opd h1) (oP h C) (oP h B) (oP h G)
   exact val (S':=S') (loc':=loc') (by simp only [execOp,n]) Q h6 h7
 ·rcases h1:s.opd x with _|v1
  ·simp only [h1]at j;exact fE s.boxes j
  simp only [h1]at j
  obtain⟨v',C,B,rfl⟩:=ue h j (h.opd h1)
  exact val (S':=S) (loc':=loc) (by simp only [execOp,n]) C h B
 ·rcases h1:s.opd x with _|v1
  ·simp only [h1]at j;exact fE s.boxes j
  simp only [h1]at j
  obtain⟨v',C,B,rfl⟩:=wV (P:=P) (w:=w) j (h.opd h1)
  exact val (S':=S) (loc':=loc) (by simp only [execOp,n]) C h B
 ·rcases h1:s.opd x with _|v1
  ·simp only [h1]at j;exact fE s.boxes j
  rcases C:s.opd y with _|v2
  ·simp only [h1,C]at j;exact fE s.boxes j
  simp only [h1,C]at j
  obtain⟨v',B,G,rfl⟩:=uh h j (h.opd h1) (h.opd C)
  exact val (S':=S) (loc':=loc) (by simp only [execOp,n]) B h G
 ·rcases h1:s.opd x with _|v1
  ·simp only [h1]at j;exact fE s.boxes j
  rcases C:s.opd y with _|v2
  ·simp only [h1,C]at j;exact fE s.boxes j
  simp only [h1,C]at j
  obtain⟨v',B,G,rfl⟩:=w2 (P:=P) (w:=w) j (h.opd h1) (h.opd C)
  exact val (S':=S) (loc':=loc) (by simp only [execOp,n]) B h G
 ·rcases h1:s.opd x with _|v1
  ·simp only [h1]at j;exact fE s.boxes j
  rcases C:s.opd y with _|v2
  ·simp only [h1,C]at j;exact fE s.boxes j
  simp only [h1,C]at j
  obtain⟨v',B,G,rfl⟩:=wo h j (h.opd h1) (h.opd C)
  exact val (S':=S) (loc':=loc) (by simp only [execOp,n]) B h G
 ·rcases h1:s.opd x with _|v1
  ·simp only [h1]at j;exact fE s.boxes j
  rcases C:s.opd y with _|v2
  ·simp only [h1,C]at j;exact fE s.boxes j
  rcases B:s.opd c with _|v3
  ·simp only [h1,C,B]at j;exact fE s.boxes j
  simp only [h1,C,B]at j
  obtain⟨w',S',loc',G,Q,rfl⟩:=wq h j (h.opd h1) (h.opd C) (h.opd B)
  exact qA.skip T D (w':=w') (by simp [execOp,n,G]) Q
 ·rcases h1:s.opd x with _|v1
  ·simp only [h1]at j;exact fE s.boxes j
  simp only [h1]at j
  obtain⟨v',B,G,rfl⟩:=wk (w:=w) (xt:=t) j (h.opd h1)
  exact val (S':=S) (loc':=loc) (by simp only [execOp,n]) B h G
 ·rcases h1:s.opd x with _|v1
  ·simp only [h1]at j;exact fE s.boxes j
  rw [h1]at j
  rcases v1 with p|_|_|_|_|vs|_|_|_|_|_|_|_<;>first|exact fE s.boxes j|skip
  rcases C:vs[i]? with _|v2
  ·simp only [C]at j;exact fE s.boxes j
  simp only [C]at j
  obtain⟨B, -, -⟩:=mQ j
  cases B
  have Y:=h.opd h1
  generalize I:a.eval x=vx at Y
  cases Y with
  |tup _ ws hlen hc=>
   have b4:i<ws.size:=by rw [hlen];exact(List.getElem?_eq_some_iff.1 C).1
   have hw:=Array.getElem?_eq_getElem b4
   refine val (S':=S) (loc':=loc) (v':=ws[i]) (w':=w) (m:=Instr.extract (.tuple ws) i) (by simp only [execOp,n,I]) ?_ h (hc i v _ C hw)
   simp [Instr.extract,hw]
 ·obtain⟨callee,args,argTypes⟩:=c
  simp only at j
  rcases C:oR s args.toList with _|l
  ·rw [C]at j;cases callee with
   |value f=>exact fE s.boxes j
   |invoke r m=>exact fE s.boxes j
   |builtin b=>cases b<;>exact fE s.boxes j
  rw [C]at j
  obtain⟨g1,g2⟩:=um h C
  cases callee with
  |invoke rc m=>
   rcases B:s.opd rc with _|v1
   ·simp only [B]at j;exact fE s.boxes j
   simp only [B]at j
   have Y:=h.opd B
   obtain⟨t,c,f,rfl,a8⟩:=w4 j
   generalize a9:a.eval rc=vrc at Y
   cases Y with
   |ifc _ _ vc hc=>
    have W:l.length=args.size:=by simpa using g1
    have E:∀(v0:RV)(w0:Value),R S loc v0 w0->∀(i:Nat)x y,(v0::l)[i]? =some x->(#[w0]++args.map a.eval)[i]? =some y->R S loc x y:=fun v0 w0 h0 i x y I J=>by
     cases i with
     |zero=>
      simp only [AT,AD]at I
      rw [B8 sm]at J
      simp at J
      subst I J
      exact h0
     |succ i=>
      rw [AS]at I
      rw [B9 sm]at J
      exact g2 i x y I (by simpa using J)
    have e1:(#[Value.iface t vc]++Ba a.eval args)[0]? =some (.iface t vc):=by rw [B8 sm];rfl
    have e2:(Ba a.eval args).extract 0 args.size=Ba a.eval args:=by
     apply B7
     simp only [Array.toList_extract,Bb,List.extract_eq_take_drop,List.drop_zero,Nat.sub_zero]
     exact List.take_of_length_le sm
    rcases a8 with⟨hm,a5⟩|⟨e,v0,u0,r1,r2,hm,b3,a5⟩
    ·refine pB N h T D a5 (vs:= #[vc]++args.map a.eval) (by simp [W];omega) (E c vc hc) ?_
     rw [<-rQ hm (v':=vc) rfl (args.map a.eval)]
     simp [execOp,n,resolve,a9,invoke,e1,e2]
    ·obtain⟨v1,a6,b5, -⟩:=rY h b3 hc
     refine pB N h T D a5 (vs:= #[v1]++args.map a.eval) (by simp [W];omega) (E v0 v1 b5) ?_
     rw [<-rQ hm (v':=v1) a6 (args.map a.eval)]
     simp [execOp,n,resolve,a9,invoke,e1,e2]
  |value f=>
   rcases B:s.opd f with _|v1
   ·simp only [B]at j;exact fE s.boxes j
   simp only [B]at j
   rcases v1 with p|_|_|_|_|_|_|_|_|_|_|⟨g,cs⟩|_<;>first|exact fE s.boxes j|skip
   rotate_left
   ·have Y:=h.opd B
    generalize b2:a.eval f=vf at Y
    cases Y with
    |clo _ _ caps b1 b0=>
     have W:l.length=args.size:=by simpa using g1
     refine pB N h T D j (vs:=args.map a.eval++caps) (by simp [W,b1]) (fun i x y I J=>?_) ?_
     ·by_cases hi:i<l.length
      ·rw [List.getElem?_append_left hi]at I
       rw [B8 so]at J
       exact g2 i x y I (by simpa using J)
      ·rw [List.getElem?_append_right om]at I
       rw [B9 so]at J
       have e:(args.map a.eval).size=l.length:=by simp [W]
       rw [e]at J
       exact b0 _ x y I J
     ·simp only [execOp,n,resolve,b2,Ai,Deferred.ofValue,Ak,A8,invoke]
      simp
   cases p<;>first|exact fE s.boxes j|skip
   rename_i fv
   have hf:=(h.opd B).raw_inv
   cases fv<;>first|exact fE s.boxes j|skip
   rename_i fn first captured
   cases fn<;>first|exact fE s.boxes j|skip
   rename_i g
   obtain⟨fl⟩:=first
   obtain⟨cl⟩:=captured
   rcases fl with _|⟨f0,_|⟨f1,fl⟩⟩
   rotate_left
   ·cases f0<;>first|exact fE s.boxes j|skip
    rename_i fa
    obtain⟨fa⟩:=fa
    cases fa<;>first|exact fE s.boxes j|skip
    cases cl<;>first|exact fE s.boxes j|skip
    have W:l.length=args.size:=by simpa using g1
    refine pB N h T D j (vs:= #[.agg #[]]++args.map a.eval) (by simp [W];omega) (fun i x y I J=>?_) ?_
    ·cases i with
     |zero=>
      simp only [AT,AD]at I
      rw [B8 sm]at J
      simp at J
      subst I J
      exact .d (.agg [] #[] rfl (fun i p v hp=>by simp at hp))
     |succ i=>
      rw [AS]at I
      rw [B9 sm]at J
      exact g2 i x y I (by simpa using J)
    ·simp only [execOp,n,resolve,hf,Ai,Deferred.ofValue,Ak,A8,invoke]
     simp
   ·cases f0<;>first|exact fE s.boxes j|skip
    all_goals (try(exact fE s.boxes j))
    all_goals (rename_i fa;obtain⟨fa⟩:=fa;cases fa<;>exact fE s.boxes j)
   cases cl<;>first|exact fE s.boxes j|skip
   refine pB N h T D j (vs:=args.map a.eval) (by simpa using g1) (fun i x y I J=>g2 i x y I (by simpa using J)) ?_
   simp only [execOp,n,resolve,hf,Ai,Deferred.ofValue,Ak,A8,invoke]
   simp
  |builtin b=>
   cases b<;>first|exact fE s.boxes j|skip
   case append=>
    rcases l with _|⟨x,_|⟨y,_|⟨z,l⟩⟩⟩<;>first|exact fE s.boxes j|skip
    by_cases H:argTypes.size=2
    rotate_left
    ·simp only [H,if_false]at j;exact fE s.boxes j
    simp only [H,if_true]at j
    obtain⟨K,y',E⟩:∃K y',args.toList=[K,y']:=by
     rcases hq:args.toList with _|⟨p,_|⟨q,_|⟨z,l⟩⟩⟩<;>simp [hq]at g1
     exact⟨p,q,rfl⟩
    have F:args= #[K,y']:=by apply B7;exact E
    subst F
    obtain⟨t1,t2,O⟩:∃t1 t2,argTypes= #[t1,t2]:=by
     obtain⟨l⟩:=argTypes
     rcases l with _|⟨p,_|⟨q,_|⟨z,l⟩⟩⟩<;>simp at H
     exact⟨p,q,rfl⟩
    subst O
    have I:=g2 0 x (a.eval K) rfl rfl
    have J:=g2 1 y (a.eval y') rfl rfl
    by_cases a7:t1=t2
    rotate_left
    ·have a5:uD P (o.dst.getD 0*16) t1 t2 x y s.boxes=some ((v,u),r,true):=by
      rw [if_neg (show ¬(#[t1,t2]:Array TypeId).getD 0 0=(#[t1,t2]:Array TypeId).getD 1 0 from a7)]at j
      exact j
     obtain⟨v',w',loc',B,G,Q⟩:=xk (ty:=o.type) h a5 I J
     refine qA.value T D (v':=v') (w':=w') ?_ G Q
     simp only [execOp,n,resolve,Ai,Ak,A8,invoke,builtin,B4,B2,B3]
     have L:(Builtin.append_ #[t1,t2] o.type #[a.eval K,a.eval y']).run P w= .ok v' w':=B
     rw [L]
     rfl
    rw [if_pos (show(#[t1,t2]:Array TypeId).getD 0 0=(#[t1,t2]:Array TypeId).getD 1 0 from a7)]at j
    replace j:oC P (o.dst.getD 0*16) t1 t2 x y s.boxes=some ((v,u),r,true):=j
    obtain⟨O,v',w',S',loc',B,G,Q⟩:=wj (ty:=o.type) h j I J
    subst O
    refine qA.value T D (v':=v') (w':=w') ?_ G Q
    simp only [execOp,n,resolve,Ai,Ak,A8,invoke,builtin,B4,B2,B3]
    have L:(Builtin.append_ #[t1,t1] o.type #[a.eval K,a.eval y']).run P w= .ok v' w':=B
    rw [L]
    rfl
   case copy=>
    rcases l with _|⟨x,_|⟨y,_|⟨z,l⟩⟩⟩<;>first|exact fE s.boxes j|skip
    by_cases H:argTypes.size=2
    rotate_left
    ·simp only [H,if_false]at j;exact fE s.boxes j
    simp only [H,if_true]at j
    obtain⟨K,y',E⟩:∃K y',args.toList=[K,y']:=by
     rcases hq:args.toList with _|⟨p,_|⟨q,_|⟨z,l⟩⟩⟩<;>simp [hq]at g1
     exact⟨p,q,rfl⟩
    have F:args= #[K,y']:=by apply B7;exact E
    subst F
    obtain⟨t1,t2,O⟩:∃t1 t2,argTypes= #[t1,t2]:=by
     obtain⟨l⟩:=argTypes
     rcases l with _|⟨p,_|⟨q,_|⟨z,l⟩⟩⟩<;>simp at H
     exact⟨p,q,rfl⟩
    subst O
    have I:=g2 0 x (a.eval K) rfl rfl
    have J:=g2 1 y (a.eval y') rfl rfl
    replace j:sQ P t1 x y s.boxes=some ((v,u),r,true):=j
    obtain⟨v',w',S',loc',B,G,Q⟩:=xz (t':=t2) (ty:=o.type) h j I J
    refine qA.value T D (v':=v') (w':=w') ?_ G Q
    simp only [execOp,n,resolve,Ai,Ak,A8,invoke,builtin,B4,B2,B3]
    have L:(Builtin.copy_ #[t1,t2] o.type #[a.eval K,a.eval y']).run P w= .ok v' w':=B
    rw [L]
    rfl
   case clear=>
    rcases l with _|⟨x,_|⟨y,l⟩⟩<;>first|exact fE s.boxes j|skip
    obtain⟨K,E⟩:∃K,args.toList=[K]:=by
     rcases hq:args.toList with _|⟨p,_|⟨q,l⟩⟩<;>simp [hq]at g1
     exact⟨p,rfl⟩
    have F:args= #[K]:=by apply B7;exact E
    subst F
    have I:=g2 0 x (a.eval K) rfl rfl
    by_cases H:argTypes.size=1
    rotate_left
    ·simp only [H,if_false]at j;exact fE s.boxes j
    simp only [H,if_true]at j
    obtain⟨t1,O⟩:∃t1,argTypes= #[t1]:=by
     obtain⟨l⟩:=argTypes
     rcases l with _|⟨p,_|⟨q,l⟩⟩<;>simp at H
     exact⟨p,rfl⟩
    subst O
    replace j:qv P t1 x s.boxes=some ((v,u),r,true):=j
    obtain⟨v',w',S',loc',B,G,Q⟩:=wS (ty:=o.type) h j I
    refine qA.value T D (v':=v') (w':=w') ?_ G Q
    simp only [execOp,n,resolve,Ai,Ak,A8,invoke,builtin,B4,B2,B3]
    have L:(Builtin.clear_ #[t1] o.type #[a.eval K]).run P w= .ok v' w':=B
    rw [L]
    rfl
   case min=>
    obtain⟨v',B,G,rfl⟩:=yE (P:=P) (w:=w) (ts:=argTypes) (ty:=o.type) (vs:=args.map a.eval) j (by simpa using g1) (fun i x y I J=>g2 i x y I (by simpa using J))
    refine qA.value T D (v':=v') (w':=w) ?_ h G
    simp only [execOp,n,resolve,Ai,Ak,A8,invoke,builtin]
    rw [B]
    rfl
   case max=>
    obtain⟨v',B,G,rfl⟩:=yD (P:=P) (w:=w) (ts:=argTypes) (ty:=o.type) (vs:=args.map a.eval) j (by simpa using g1) (fun i x y I J=>g2 i x y I (by simpa using J))
    refine qA.value T D (v':=v') (w':=w) ?_ h G
    simp only [execOp,n,resolve,Ai,Ak,A8,invoke,builtin]
    rw [B]
    rfl
   case cap=>
    rcases l with _|⟨x,_|⟨y,l⟩⟩<;>first|exact fE s.boxes j|skip
    obtain⟨K,E⟩:∃K,args.toList=[K]:=by
     rcases hq:args.toList with _|⟨p,_|⟨q,l⟩⟩<;>simp [hq]at g1
     exact⟨p,rfl⟩
    have F:args= #[K]:=by apply B7;exact E
    subst F
    have I:=g2 0 x (a.eval K) rfl rfl
    by_cases H:argTypes.size=1
    rotate_left
    ·simp only [H,if_false]at j;exact fE s.boxes j
    simp only [H,if_true]at j
    obtain⟨t1,O⟩:∃t1,argTypes= #[t1]:=by
     obtain⟨l⟩:=argTypes
     rcases l with _|⟨p,_|⟨q,l⟩⟩<;>simp at H
     exact⟨p,rfl⟩
    subst O
    obtain⟨v',B,G,rfl⟩:=yk (ty:=o.type) h j I
    refine qA.value T D (v':=v') (w':=w) ?_ h G
    simp only [execOp,n,resolve,Ai,Ak,A8,invoke,builtin,B4,B2,B3]
    have L:(Builtin.cap_ #[t1] o.type #[a.eval K]).run P w= .ok v' w:=B
    rw [L]
    rfl
   case len=>
    rcases l with _|⟨x,_|⟨y,l⟩⟩<;>first|exact fE s.boxes j|skip
    obtain⟨K,E⟩:∃K,args.toList=[K]:=by
     rcases hq:args.toList with _|⟨p,_|⟨q,l⟩⟩<;>simp [hq]at g1
     exact⟨p,rfl⟩
    have F:args= #[K]:=by apply B7;exact E
    subst F
    have I:=g2 0 x (a.eval K) rfl rfl
    by_cases H:argTypes.size=1
    rotate_left
    ·simp only [H,if_false]at j;exact fE s.boxes j
    simp only [H,if_true]at j
    obtain⟨t1,O⟩:∃t1,argTypes= #[t1]:=by
     obtain⟨l⟩:=argTypes
     rcases l with _|⟨p,_|⟨q,l⟩⟩<;>simp at H
     exact⟨p,rfl⟩
    subst O
    obtain⟨v',B,G,rfl⟩:=yA (ty:=o.type) h j I
    refine qA.value T D (v':=v') (w':=w) ?_ h G
    simp only [execOp,n,resolve,Ai,Ak,A8,invoke,builtin,B4,B2,B3]
    have L:(Builtin.len_ #[t1] o.type #[a.eval K]).run P w= .ok v' w:=B
    rw [L]
    rfl
end
end Go.Dw
