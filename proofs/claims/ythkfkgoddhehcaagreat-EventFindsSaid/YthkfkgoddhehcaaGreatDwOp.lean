
import Derived.Test.YthkfkgoddhehcaaGreatDwIfc
import Derived.Test.YthkfkgoddhehcaaGreatDwEq
import Derived.Lib.ConvBytes
import Derived.Laws.IdiomStrings
import Derived.Laws.BytesArg
set_option linter.unusedVariables false
set_option linter.unusedSimpArgs false
open Option.some renaming injEq->EC
open List renaming getD->FA, getElem?_cons_succ->EU, getElem?_cons_zero->EV, getElem?_map->FO, length_map->Fh, map_cons->Fk, map_nil->Fl, map_toArray->Fm, mem_of_getElem?->E1
open Prod.mk renaming injEq->EE
open Go.Sem renaming run_bind->FJ, run_pure->FL
open Nat renaming add_zero->E4, mul_one->Fo
open Array renaming eq_empty_of_size_eq_zero->Fp, ext'->Fq, getElem?_append_left->Fs, getElem?_append_right->Ft, map->Fu, toList_map->Fv
open Go.Result renaming andThen_ok->Ez

namespace Go.Dw
section
variable {P:Program}{X:Ctx}{S:tG}{loc:ui}{s:St}{w:World}{a:Act}
theorem Ax(h:Sim P X S loc s a.tmps w):∀{xs:List Operand}{l:List RV},vw s xs=some l->l.length=xs.length∧∀(i:Nat)x v,l[i]? =some x->(xs.map a.eval)[i]? =some v->R S loc x v
 | [],l,c=>by
  simp only [vw,EC]at c
  subst c
  exact⟨rfl,λi x v j=>by simp at j⟩
 |x::xs,l,c=>by
  simp only [vw]at c
  rcases h1:s.opd x with _|v
  ·simp [h1]at c
  rcases g:vw s xs with _|r
  ·simp [h1,g]at c
  simp only [h1,g,EC]at c
  subst c
  obtain⟨g1,g2⟩:=Ax h g
  refine⟨by simp [g1],λi y u f hu=>?_⟩
  cases i with
  |zero=>
   simp only [EV,EC,Fk]at f hu
   subst f;subst hu
   exact h.opd h1
  |succ i=>simp only [EU,Fk]at f hu;exact g2 i y u f hu
theorem xp(h:Sim P X S loc s a.tmps w):∀{xs:List (Nat×Operand)}{l:List (Nat×RV)},uQ s xs=some l->Cy S loc l (xs.map fun(i,x)=>(i,a.eval x))
 | [],l,c=>by
  simp only [uQ,EC]at c
  subst c
  exact⟨rfl,λi x v j=>by simp at j⟩
 |(k,x)::xs,l,c=>by
  simp only [uQ]at c
  rcases h1:s.opd x with _|v
  ·simp [h1]at c
  rcases g:uQ s xs with _|r
  ·simp [h1,g]at c
  simp only [h1,g,EC]at c
  subst c
  obtain⟨g1,g2⟩:=xp h g
  refine⟨by simpa using g1,λi y u f hu=>?_⟩
  cases i with
  |zero=>
   simp only [EV,EC,Fk]at f hu
   subst f;subst hu
   exact⟨rfl,h.opd h1⟩
  |succ i=>simp only [EU,Fk]at f hu;exact g2 i y u f hu
theorem v7(h:Sim P X S loc s a.tmps w){x:Option Operand}{v:Option RV}(c:ur s x=some v):RO S loc v (x.map a.eval):=by
 cases x with
 |none=>simp only [ur,EC]at c;subst c;exact .none
 |some x=>
  simp only [ur]at c
  rcases h1:s.opd x with _|r
  ·simp [h1]at c
  simp only [h1,EC]at c
  subst c
  exact .some (h.opd h1)
theorem CL{src dst:TypeId}{x:RV}{p:PD}{v:Value}(h:convD P src dst x=some (p,true))(f:R S loc x v):∃v',(convert src dst v).run P w= .ok v' w∧V S p v':=by
 unfold convD at h
 rcases h1:P.underlying src with _|d1
 ·simp [h1]at h
 rcases c:P.underlying dst with _|d2
 ·cases d1<;>simp [h1,c]at h
 cases d1<;>cases d2<;>first|(simp [h1,c]at h;done)|skip
 all_goals (rcases x with g|_|_|_|_|_|_|_|_|_|_|_|_<;>first|(simp [h1,c]at h;done)|skip)
 all_goals (cases g<;>first|(simp [h1,c]at h;done)|skip)
 ·simp only [h1,c,EC,EE,and_true]at h
  subst h
  have:=f.uo
  subst this
  exact⟨_,by simp [convert,run_underlying h1,run_underlying c,Conv.intToInt],.int _ _⟩
 ·simp only [h1,c,EC,EE,and_true]at h
  subst h
  have:=f.xZ
  subst this
  exact⟨_,by simp [convert,run_underlying h1,run_underlying c],.str _⟩
theorem Dm(w:World)(e:TypeId)(b:ByteArray):Step none w (Lib.bytesWorld w e b):=
 ⟨rfl,rfl,rfl,by rw [Lib.bytesWorld_size];omega,λj c _=>Lib.bytesWorld_at_old w e b j c,Nat.le_succ _⟩
theorem CJ(P:Program)(id:Nat)(src dst:TypeId)(x:RV):(∃e str,P.underlying src=some .string∧P.underlying dst=some (.slice e)∧x= .d (.str str))∨(∃e i ver,P.underlying src=some (.slice e)∧P.underlying dst=some .string∧x= .ref i ver)∨(∃e es,P.underlying src=some (.slice e)∧P.underlying dst=some .string∧x= .d (.lst es))∨
  yd P id src dst x=yg (convD P src dst x):=by
 unfold yd
 split
 ·exact .inl ⟨_,_,by assumption,by assumption,rfl⟩
 ·exact .inr (.inl ⟨_,_,_,by assumption,by assumption,rfl⟩)
 ·exact .inr (.inr (.inl ⟨_,_,by assumption,by assumption,rfl⟩))
 ·exact .inr (.inr (.inr rfl))
theorem Ds(h:Sim P X S loc s a.tmps w){src dst e:TypeId}{g:List Int}{t:Value}(hs:P.underlying src=some (.slice e))(he:P.underlying e=some (.int .u8))(q:P.underlying dst=some .string)(r:V S (.lst (g.map (.int .u8))) t):
  (convert src dst t).run P w= .ok (.string ⟨(strU g).toArray⟩) w:=by
 generalize j:g.map (PD.int .u8)=es at r
 cases r with
 |nil a c=>
  obtain rfl:=List.map_eq_nil_iff.1 j
  rw [run_convert_bytes_string w src dst e a 0 c hs he q]
  cases a<;>simp [Conv.bytesToString,loadCells,loadCellsFrom,strU,FL]<;>rfl
 |lst _ b o c sz f hc k hS hV=>
  subst j
  rw [Fh]
  refine run_convert_bytes_arg w src e hs he b o g.length c g rfl (λi hi=>?_) dst q
  have h1:(g.map (PD.int .u8))[i]? =some (.int .u8 g[i]):=by simp [hi]
  have x:sz=1:=by rw [<-k _ (E1 h1)];rfl
  subst x
  have l:=h.imm _ _ (hS i _ 0 _ h1 rfl)
  have p:=(hV i _ 0 _ h1 rfl)
  rw [Fo,E4]at l
  rw [l]
  generalize f i 0=u at p
  cases p
  simp [FA,hi]
theorem conv_row(h:Sim P X S loc s a.tmps w){src dst e B:TypeId}{i ver:Nat}{f:List Int}{z:Value}(hs:P.underlying src=some (.slice e))(he:P.underlying e=some (.int .u8))(t:P.underlying dst=some .string)
  (D:s.boxes i=some (.arr ver B (f.map (.int .u8)))) (F:R S loc (.ref i ver) z):
  (convert src dst z).run P w= .ok (.string ⟨(strU f).toArray⟩) w:=by
 obtain⟨sz,xs,y,E,how,hf⟩:=h.xK D F
 by_cases l:f=[]
 ·subst l
  obtain⟨p,c,rfl,_⟩:=how.hdr
  rw [Fl,List.length_nil,run_convert_bytes_string w src dst e p 0 c hs he t]
  cases p<;>simp [Conv.bytesToString,loadCells,loadCellsFrom,strU,FL]<;>rfl
 ·have k:0<f.length:=by cases f with|nil=>exact(l rfl).elim|cons=>simp
  have how:=how.wj (by simpa using k)
  obtain⟨g,c,rfl⟩:=vk how (by simpa using k)
  rw [Fh]
  refine run_convert_bytes_arg w src e hs he g 0 f.length c f rfl (λj x=>?_) dst t
  have h1:(f.map (PD.int .u8))[j]? =some (.int .u8 f[j]):=by simp [x]
  have G:sz=1:=by rw [<-hf.len _ (E1 h1)];rfl
  subst G
  obtain⟨u,q,C⟩:=hf.cell j _ 0 _ h1 rfl
  rw [Fo,E4]at q
  have r:=how.cells (g:=g) rfl j u q
  rw [uC]at r
  rw [r]
  cases C
  simp [FA,x]
theorem CK(h:Sim P X S loc s a.tmps w){id:Nat}{src dst:TypeId}{x v:RV}{u:Ups}{r:List Nat}{Q:Value}(c:yd P id src dst x s.boxes=some ((v,u),r,true))(N:R S loc x Q):
  ∃v' w' loc',(convert src dst Q).run P w= .ok v' w'∧Sim P X S loc' (s.ups u) a.tmps w'∧R S loc' v v':=by
 rcases CJ P id src dst x with⟨e,str,hs,z,rfl⟩|⟨e,i,ver,hs,z,rfl⟩|⟨e,es,hs,z,rfl⟩|hc
 ·unfold yd at c
  simp only [hs,z]at c
  by_cases he:P.underlying e=some (.int .u8)
  ·simp only [he]at c
   obtain⟨_,r1,r2,h1,l,_⟩:=M.bind_some c
   obtain⟨F,_,_⟩:=M.uD h1
   obtain⟨C, -,hc⟩:=M.tK l
   cases C
   have W:=N.xZ
   subst W
   obtain⟨hz,hlen⟩:=of_decide_eq_true hc.symm
   have E:ByteArray.size ⟨str.toArray⟩=str.length:=by simp [ByteArray.size]
   have H:=grownCap_ge w (ByteArray.size ⟨str.toArray⟩) 0 e
   have t:=grownCap_le_maxLen w (ByteArray.size ⟨str.toArray⟩) 0 e (by rw [E];simp only [maxLen];omega)
   have B:=Lib.run_convert_string_bytes (P:=P) w src dst e ⟨str.toArray⟩ hs z he
   have I:=Lib.bytesWorld_at_new w e ⟨str.toArray⟩
   rw [E]at H t B
   have G:(Lib.bytesCells w e ⟨str.toArray⟩).size=grownCap w str.length 0 e:=by
    simp only [Lib.bytesCells,Array.size_append,Array.size_map,Array.size_replicate,E]
    simp;omega
   obtain⟨loc',h1,l,_⟩:=h.yB (P:=P) (w':=Lib.bytesWorld w e ⟨str.toArray⟩) (es:=str.map λb=>.int .u8 b.toNat) (xs:=str.map λb=>.int .u8 b.toNat) F (Dm w e _) hz
    (hdr:= .slice (some ⟨w.heap.size,0,none⟩) str.length (grownCap w str.length 0 e))
    (.inl ⟨zb, .inr ⟨w.heap.size, _, _, _, zb, .inr ⟨G, rfl⟩, I, by simpa using H, t, by simpa using G, by
     simp only [Lib.bytesCells,Fh,Fo,Array.toList_append,Fv]
     exact List.take_left' zb⟩⟩)
    ⟨by simp [PD.cells], by simp; intro a _; rfl, λi y j x hi O => by
     rw [FO,Option.map_eq_some_iff]at hi
     obtain⟨b,F,rfl⟩:=hi
     cases j with
     |succ j=>simp [PD.cells]at O
     |zero=>
      simp only [PD.cells,EV,EC]at O
      subst O
      exact⟨_,by rw [Fo,E4,FO,F];rfl,.int _ _⟩⟩
    (λg K => by
     unfold tM at K
     split at K
     ·rename_i h1
      simp only [Value.slice.injEq,EC]at h1
      obtain⟨h1, -⟩:=h1
      subst h1
      cases K
      exact Nat.le_refl _
     ·cases K) rfl
   exact⟨_,_,loc',B,h1,l⟩
  ·rcases f:P.underlying e with _|q
   ·simp only [f]at c;exact fE s.boxes c
   ·cases q<;>first|(simp only [f]at c;exact fE s.boxes c)|skip
    rename_i k
    cases k<;>first|exact(he f).elim|(simp only [f]at c;exact fE s.boxes c)
 ·unfold yd at c
  simp only [hs,z]at c
  by_cases he:P.underlying e=some (.int .u8)
  ·simp only [he]at c
   obtain⟨T,r1,r2,h1,l,_⟩:=M.bind_some c
   obtain⟨F,_,_⟩:=M.get_some h1
   cases T<;>first|exact fE s.boxes l|skip
   rename_i J e' es
   by_cases L:ver=J
   rotate_left
   ·simp only [L,if_false]at l;exact fE s.boxes l
   subst L
   simp only [if_true]at l
   rcases D:u8s es with _|ns
   ·simp only [D]at l;exact fE s.boxes l
   simp only [D]at l
   obtain⟨C, -, -⟩:=tR l
   cases C
   obtain rfl:=BF D
   exact⟨_,w,loc,conv_row h hs he z F N,h,.d (.str _)⟩
  ·rcases f:P.underlying e with _|q
   ·simp only [f]at c;exact fE s.boxes c
   ·cases q<;>first|(simp only [f]at c;exact fE s.boxes c)|skip
    rename_i k
    cases k<;>first|exact(he f).elim|(simp only [f]at c;exact fE s.boxes c)
 ·unfold yd at c
  simp only [hs,z]at c
  by_cases he:P.underlying e=some (.int .u8)
  ·simp only [he]at c
   rcases D:u8s es with _|ns
   ·simp only [D]at c;exact fE s.boxes c
   simp only [D]at c
   obtain⟨C, -, -⟩:=tR c
   cases C
   obtain rfl:=BF D
   cases N with
   |d L=>exact⟨_,w,loc,Ds h hs he z L,h,.d (.str _)⟩
  ·rcases f:P.underlying e with _|q
   ·simp only [f]at c;exact fE s.boxes c
   ·cases q<;>first|(simp only [f]at c;exact fE s.boxes c)|skip
    rename_i k
    cases k<;>first|exact(he f).elim|(simp only [f]at c;exact fE s.boxes c)
 ·rw [hc]at c
  obtain⟨p,C,Y, -⟩:=xU c
  cases Y
  obtain⟨v',h5,h6⟩:=CL (P:=P) (w:=w) C N
  exact⟨v',w,loc,h5,h,.d h6⟩
theorem Dy{mt:Hf}{call:tI}(O:vX P X.base call){o:Oper}(hS:xm P X s a w)(F:∀d,o.dst=some d->d<X.nt){v:RV}{u:Ups}{r:List Nat}
  (j:tP P mt call s o s.boxes=some ((v,u),r,true)):xI P X ((s.ups u).put o.dst v) o a w:=by
 obtain⟨W,S,loc,h⟩:=hS
 have pure_:∀{v':Value},(execOp a.eval o).run P w= .ok (.value v') w->R S loc v v'->u=[]->xI P X ((s.ups u).put o.dst v) o a w:=by
  intro v' a6 hr hu
  subst hu
  exact xI.value W F a6 h hr
 have val:∀{m:Sem Value}{v':Value}{w':World}{S':tG}{loc':ui},(execOp a.eval o)=(do pure (.value (<-m)))->m.run P w= .ok v' w'->Sim P X S' loc' (s.ups u) a.tmps w'->R S' loc' v v'->xI P X ((s.ups u).put o.dst v) o a w:=by
  intro m v' w' S' loc' he hm hs hr
  refine xI.value W F (v':=v') (w':=w') ?_ hs hr
  rw [he]
  simp [hm]
 unfold tP at j
 rcases B:o.op with x|x|⟨c,x,y⟩|t|⟨t,x⟩|⟨t,parts⟩|⟨t,len,parts⟩|⟨t,m,k,x⟩|⟨t,x⟩|⟨t,x,y⟩|g|g|x|⟨op,t,x,y,t2⟩|⟨op,t,x⟩|⟨t,t2,x⟩|⟨t,x⟩|⟨t,x⟩|⟨fn,x,y⟩|⟨t,x⟩|⟨t,x⟩|⟨t,x,y⟩|⟨t,x,lo,hi,mx⟩|⟨t,x,f⟩|⟨t,x,f⟩|⟨t,x,y⟩|⟨t,x,y⟩|⟨t,x,y,c⟩|⟨t,x,y,c⟩|⟨t,x,y⟩|⟨t,x,y,c⟩|⟨t,x⟩|⟨x,b⟩|x|⟨x,t,t2,b⟩|⟨x,i⟩|c|c|c|x|⟨x,y⟩|⟨t,x,b⟩|⟨cs,b⟩
 all_goals (simp only [B]at j)
 all_goals first|exact fE s.boxes j|skip
 ·rcases h1:s.opd x with _|v1
  ·simp only [h1]at j;exact fE s.boxes j
  simp only [h1]at j
  obtain⟨D, -, -⟩:=tR j
  cases D
  exact pure_ (by simp [execOp,B]) (h.opd h1) rfl
 ·rcases h1:s.opd x with _|v1
  ·simp only [h1]at j;exact fE s.boxes j
  simp only [h1]at j
  obtain⟨D, -, -⟩:=tR j
  cases D
  exact pure_ (by simp [execOp,B]) (h.opd h1) rfl
 ·rcases h1:s.opd c with _|v1
  ·simp only [h1]at j;exact fE s.boxes j
  rw [h1]at j
  rcases v1 with p|_|_|_|_|_|_|_|_|_|_|_|_<;>first|exact fE s.boxes j|skip
  cases p<;>first|exact fE s.boxes j|skip
  rename_i b
  have hb:=(h.opd h1).wI
  cases b
  ·rcases D:s.opd y with _|v2
   ·simp only [D,Bool.false_eq_true,if_false]at j;exact fE s.boxes j
   simp only [D,Bool.false_eq_true,if_false]at j
   obtain⟨C, -, -⟩:=tR j
   cases C
   exact pure_ (by simp [execOp,B,hb,asBool]) (h.opd D) rfl
  ·rcases D:s.opd x with _|v2
   ·simp only [D,if_true]at j;exact fE s.boxes j
   simp only [D,if_true]at j
   obtain⟨C, -, -⟩:=tR j
   cases C
   exact pure_ (by simp [execOp,B,hb,asBool]) (h.opd D) rfl
 ·obtain⟨v',w',loc',h1,D,C⟩:=B5 h j
  exact val (by simp only [execOp,B]) h1 D C
 ·rcases h1:s.opd x with _|v1
  ·simp only [h1]at j;exact fE s.boxes j
  simp only [h1]at j
  obtain⟨v',w',loc',h1,D,C⟩:=Dk (t:=t) h j (h.opd h1)
  exact val (by simp only [execOp,B]) h1 D C
 ·rcases h1:uQ s parts.toList with _|l
  ·simp only [h1]at j;exact fE s.boxes j
  simp only [h1]at j
  have hp:=xp h h1
  obtain⟨v',D,C,rfl⟩:=B7 (P:=P) (w:=w) (pvs:=parts.map fun(i,x)=>(i,a.eval x)) j (by simpa using hp)
  exact val (S':=S) (loc':=loc) (by simp only [execOp,B]) D h C
 ·rcases h1:uQ s parts.toList with _|l
  ·simp only [h1]at j;exact fE s.boxes j
  simp only [h1]at j
  have hp:=xp h h1
  obtain⟨v',w',S',loc',D,C,H⟩:=zM (pvs:=parts.map fun(i,x)=>(i,a.eval x)) h j (by simpa using hp)
  exact val (by simp only [execOp,B]) D C H
 ·rcases h1:s.opd x with _|v1
  ·simp only [h1]at j;exact fE s.boxes j
  simp only [h1]at j
  obtain⟨v',D,C,rfl⟩:=yy h j (h.opd h1)
  exact val (S':=S) (loc':=loc) (by simp only [execOp,B]) D h C
 ·rcases h1:s.opd x with _|v1
  ·simp only [h1]at j;exact fE s.boxes j
  rcases D:s.opd y with _|v2
  ·simp only [h1,D]at j;exact fE s.boxes j
  simp only [h1,D]at j
  obtain⟨w',S',loc',C,H,rfl⟩:=Cv h j (h.opd h1) (h.opd D)
  exact xI.skip W F (w':=w') (by simp [execOp,B,C]) H
 ·rcases h1:s.opd x with _|v1
  ·simp only [h1]at j;exact fE s.boxes j
  simp only [h1]at j
  obtain⟨ad,he,D,rfl,_⟩:=yz h j (h.opd h1)
  refine pure_ (v':= .pointer (some ad)) (by simp [execOp,B,he]) ?_ rfl
  rwa [Addr.add_zero']at D
 ·rcases h1:s.opd x with _|v1
  ·simp only [h1]at j;exact fE s.boxes j
  rcases D:s.opd y with _|v2
  ·simp only [h1,D]at j;exact fE s.boxes j
  simp only [h1,D]at j
  obtain⟨p,C,H, -⟩:=xU j
  cases H
  obtain⟨v',T,h6⟩:=Dj (P:=P) (w:=w) t x y C (h.opd h1) (h.opd D)
  exact val (S':=S) (loc':=loc) (by simp only [execOp,B]) T h (.d h6)
 ·cases op with
  |not=>
   rcases h1:s.opd x with _|v1
   ·simp only [h1]at j;exact fE s.boxes j
   simp only [h1]at j
   obtain⟨p,C,H, -⟩:=xU j
   cases H
   rcases v1 with p'|_|_|_|_|_|_|_|_|_|_|_|_<;>first|(simp [notD]at C;done)|skip
   cases p'<;>first|(simp [notD]at C;done)|skip
   simp only [notD,EC,EE,and_true]at C
   subst C
   have hb:=(h.opd h1).wI
   exact val (S':=S) (loc':=loc) (m:=Op.unary .not (a.eval x)) (by simp only [execOp,B]) (by rw [hb];rfl) h (.d (.bool _))
  |neg=>
   rcases h1:s.opd x with _|v1
   ·simp only [h1]at j;exact fE s.boxes j
   simp only [h1]at j
   obtain⟨p,C,H, -⟩:=xU j
   cases H
   rcases v1 with p'|_|_|_|_|_|_|_|_|_|_|_|_<;>first|(simp [negD]at C;done)|skip
   cases p'<;>first|(simp [negD]at C;done)|skip
   simp only [negD,EC,EE,and_true]at C
   subst C
   have hb:=(h.opd h1).uo
   exact val (S':=S) (loc':=loc) (m:=Op.unary .neg (a.eval x)) (by simp only [execOp,B]) (by rw [hb];rfl) h (.d (.int _ _))
  |xor=>exact fE s.boxes j
  |plus=>exact fE s.boxes j
 ·rcases h1:s.opd x with _|v1
  ·simp only [h1]at j;exact fE s.boxes j
  simp only [h1]at j
  obtain⟨v',w',loc',T,h6,h7⟩:=CK h j (h.opd h1)
  exact val (S':=S) (loc':=loc') (by simp only [execOp,B]) T h6 h7
 ·rcases h1:s.opd x with _|v1
  ·simp only [h1]at j;exact fE s.boxes j
  simp only [h1]at j
  obtain⟨v',C,H,rfl⟩:=DB (w:=w) j (h.opd h1)
  exact val (S':=S) (loc':=loc) (by simp only [execOp,B]) C h H
 ·rcases D:vw s y.toList with _|l
  ·simp only [D]at j;exact fE s.boxes j
  simp only [D]at j
  obtain⟨fl⟩:=x
  cases fn<;>first|exact fE s.boxes j|skip
  rename_i g
  obtain⟨g1,g2⟩:=Ax h D
  rcases fl with _|⟨x0,_|⟨x1,fl⟩⟩<;>first|exact fE s.boxes j|skip
  rotate_left
  ·simp only at j
   rcases C:s.opd x0 with _|rv
   ·simp only [C]at j;exact fE s.boxes j
   rw [C]at j
   rcases rv with p|_|_|_|_|_|_|_|_|_|_|_|_<;>first|exact fE s.boxes j|skip
   cases p<;>first|exact fE s.boxes j|skip
   rename_i cs
   cases cs<;>first|exact fE s.boxes j|skip
   cases l<;>first|exact fE s.boxes j|skip
   obtain⟨H, -, -⟩:=tR j
   cases H
   have c2:a.eval x0= .agg #[]:=by
    have:=h.opd C
    generalize a.eval x0=q at this
    cases this with
    |d hh=>cases hh with
     |agg _ vs c1 _=>
      have hz:vs= #[]:=Fp (by simpa using c1)
      rw [hz]
   have K:y= #[]:=Fp (by simpa using g1.symm)
   subst K
   refine val (S':=S) (loc':=loc) (v':= .func (.func g) #[.agg #[]] #[]) (w':=w) (m:=Instr.makeFunc (.func g) #[.agg #[]] #[]) (by simp [execOp,B,c2]) rfl h (.d (.raw _ rfl))
  obtain⟨C, -, -⟩:=tR j
  cases C
  refine val (S':=S) (loc':=loc) (v':= .func (.func g) #[] (y.map a.eval)) (w':=w) (m:=Instr.makeFunc (.func g) #[] (y.map a.eval)) (by simp only [execOp,B,Fm,Fl]) rfl h ?_
  exact .clo g l _ (by simpa using g1.symm) (λi c u hc hu=>g2 i c u hc (by simpa using hu))
 ·rcases h1:s.opd x with _|v1
  ·simp only [h1]at j;exact fE s.boxes j
  rcases D:s.opd y with _|v2
  ·simp only [h1,D]at j;exact fE s.boxes j
  simp only [h1,D]at j
  obtain⟨v',w',loc',C,H,T⟩:=Av h j (h.opd h1) (h.opd D)
  exact val (by simp only [execOp,B]) C H T
 ·rcases h1:s.opd x with _|v1
  ·simp only [h1]at j;exact fE s.boxes j
  rcases D:ur s lo with _|v2
  ·simp only [h1,D]at j;exact fE s.boxes j
  rcases C:ur s hi with _|v3
  ·simp only [h1,D,C]at j;exact fE s.boxes j
  rcases H:ur s mx with _|v4
  ·simp only [h1,D,C,H]at j;exact fE s.boxes j
  simp only [h1,D,C,H]at j
  split at j
  ·obtain⟨v',S',loc',T,h6,h7⟩:=C1 h j (h.opd h1) (v7 h D) (v7 h C) (v7 h H)
   exact val (S':=S') (loc':=loc') (by simp only [execOp,B]) T h6 h7
  ·obtain⟨v',S',loc',T,h6,h7⟩:=Cu h j (h.opd h1) (v7 h D) (v7 h C) (v7 h H)
   exact val (S':=S') (loc':=loc') (by simp only [execOp,B]) T h6 h7
 ·rcases h1:s.opd x with _|v1
  ·simp only [h1]at j;exact fE s.boxes j
  simp only [h1]at j
  obtain⟨v',D,C,rfl⟩:=Al h j (h.opd h1)
  exact val (S':=S) (loc':=loc) (by simp only [execOp,B]) D h C
 ·rcases h1:s.opd x with _|v1
  ·simp only [h1]at j;exact fE s.boxes j
  simp only [h1]at j
  obtain⟨v',D,C,rfl⟩:=Cc (P:=P) (w:=w) j (h.opd h1)
  exact val (S':=S) (loc':=loc) (by simp only [execOp,B]) D h C
 ·rcases h1:s.opd x with _|v1
  ·simp only [h1]at j;exact fE s.boxes j
  rcases D:s.opd y with _|v2
  ·simp only [h1,D]at j;exact fE s.boxes j
  simp only [h1,D]at j
  obtain⟨v',C,H,rfl⟩:=Ap h j (h.opd h1) (h.opd D)
  exact val (S':=S) (loc':=loc) (by simp only [execOp,B]) C h H
 ·rcases h1:s.opd x with _|v1
  ·simp only [h1]at j;exact fE s.boxes j
  rcases D:s.opd y with _|v2
  ·simp only [h1,D]at j;exact fE s.boxes j
  simp only [h1,D]at j
  obtain⟨v',C,H,rfl⟩:=Cj (P:=P) (w:=w) j (h.opd h1) (h.opd D)
  exact val (S':=S) (loc':=loc) (by simp only [execOp,B]) C h H
 ·rcases h1:s.opd x with _|v1
  ·simp only [h1]at j;exact fE s.boxes j
  simp only [h1]at j
  obtain⟨v',C,H,rfl⟩:=BI (w:=w) (xt:=t) j (h.opd h1)
  exact val (S':=S) (loc':=loc) (by simp only [execOp,B]) C h H
 ·rcases h1:s.opd x with _|v1
  ·simp only [h1]at j;exact fE s.boxes j
  rw [h1]at j
  rcases v1 with p|_|_|_|_|vs|_|_|_|_|_|_|_<;>first|exact fE s.boxes j|skip
  rcases D:vs[i]? with _|v2
  ·simp only [D]at j;exact fE s.boxes j
  simp only [D]at j
  obtain⟨C, -, -⟩:=tR j
  cases C
  have hr:=h.opd h1
  generalize J:a.eval x=vx at hr
  cases hr with
  |tup _ ws hlen hc=>
   have b6:i<ws.size:=by rw [hlen];exact(List.getElem?_eq_some_iff.1 D).1
   have hw:=Array.getElem?_eq_getElem b6
   refine val (S':=S) (loc':=loc) (v':=ws[i]) (w':=w) (m:=Instr.extract (.tuple ws) i) (by simp only [execOp,B,J]) ?_ h (hc i v _ D hw)
   simp [Instr.extract,hw]
 ·obtain⟨callee,args,argTypes⟩:=c
  simp only at j
  rcases D:vw s args.toList with _|l
  ·rw [D]at j;cases callee with
   |value f=>exact fE s.boxes j
   |invoke r m=>exact fE s.boxes j
   |builtin b=>cases b<;>exact fE s.boxes j
  rw [D]at j
  obtain⟨g1,g2⟩:=Ax h D
  cases callee with
  |invoke rc m=>
   rcases C:s.opd rc with _|v1
   ·simp only [C]at j;exact fE s.boxes j
   simp only [C]at j
   have hr:=h.opd C
   obtain⟨t,c,f,rfl,a8⟩:=Cl j
   generalize a9:a.eval rc=vrc at hr
   cases hr with
   |ifc _ _ vc hc=>
    have Y:l.length=args.size:=by simpa using g1
    have E:∀(v0:RV)(w0:Value),R S loc v0 w0->∀(i:Nat)x y,(v0::l)[i]? =some x->(#[w0]++args.map a.eval)[i]? =some y->R S loc x y:=λv0 w0 h0 i x y J K=>by
     cases i with
     |zero=>
      simp only [EV,EC]at J
      rw [Fs zb]at K
      simp at K
      subst J K
      exact h0
     |succ i=>
      rw [EU]at J
      rw [Ft zb]at K
      exact g2 i x y J (by simpa using K)
    have e1:(#[Value.iface t vc]++Fu a.eval args)[0]? =some (.iface t vc):=by rw [Fs zb];rfl
    have e2:(Fu a.eval args).extract 0 args.size=Fu a.eval args:=by
     apply Fq
     simp only [Array.toList_extract,Fv,List.extract_eq_take_drop,List.drop_zero,Nat.sub_zero]
     exact List.take_of_length_le zb
    rcases a8 with⟨hm,a5⟩|⟨e,v0,u0,r1,r2,hm,b5,a5⟩
    ·refine wJ O h W F a5 (vs:= #[vc]++args.map a.eval) (by simp [Y];omega) (E c vc hc) ?_
     rw [<-yq hm (v':=vc) rfl (args.map a.eval)]
     simp [execOp,B,resolve,a9,invoke,e1,e2]
    ·obtain⟨v1,a6,c0, -⟩:=yy h b5 hc
     refine wJ O h W F a5 (vs:= #[v1]++args.map a.eval) (by simp [Y];omega) (E v0 v1 c0) ?_
     rw [<-yq hm (v':=v1) a6 (args.map a.eval)]
     simp [execOp,B,resolve,a9,invoke,e1,e2]
  |value f=>
   rcases C:s.opd f with _|v1
   ·simp only [C]at j;exact fE s.boxes j
   simp only [C]at j
   rcases v1 with p|_|_|_|_|_|_|_|_|_|_|⟨g,cs⟩|_<;>first|exact fE s.boxes j|skip
   rotate_left
   ·have hr:=h.opd C
    generalize b4:a.eval f=vf at hr
    cases hr with
    |clo _ _ caps b3 b0=>
     have Y:l.length=args.size:=by simpa using g1
     refine wJ O h W F j (vs:=args.map a.eval++caps) (by simp [Y,b3]) (λi x y J K=>?_) ?_
     ·by_cases hi:i<l.length
      ·rw [List.getElem?_append_left hi]at J
       rw [Fs so]at K
       exact g2 i x y J (by simpa using K)
      ·rw [List.getElem?_append_right za]at J
       rw [Ft so]at K
       have e:(args.map a.eval).size=l.length:=by simp [Y]
       rw [e]at K
       exact b0 _ x y J K
     ·simp only [execOp,B,resolve,b4,FJ,Deferred.ofValue,FL,Ez,invoke]
      simp
   cases p<;>first|exact fE s.boxes j|skip
   rename_i fv
   have hf:=(h.opd C).raw_inv
   cases fv<;>first|exact fE s.boxes j|skip
   rename_i fn first captured
   cases fn<;>first|exact fE s.boxes j|skip
   rename_i g
   obtain⟨fl⟩:=first
   obtain⟨cl⟩:=captured
   rcases fl with _|⟨f0,_|⟨f1,fl⟩⟩
   rotate_left
   ·cases f0<;>first|exact fE s.boxes j|skip
    rename_i fa
    obtain⟨fa⟩:=fa
    cases fa<;>first|exact fE s.boxes j|skip
    cases cl<;>first|exact fE s.boxes j|skip
    have Y:l.length=args.size:=by simpa using g1
    refine wJ O h W F j (vs:= #[.agg #[]]++args.map a.eval) (by simp [Y];omega) (λi x y J K=>?_) ?_
    ·cases i with
     |zero=>
      simp only [EV,EC]at J
      rw [Fs zb]at K
      simp at K
      subst J K
      exact .d (.agg [] #[] rfl (λi p v hp=>by simp at hp))
     |succ i=>
      rw [EU]at J
      rw [Ft zb]at K
      exact g2 i x y J (by simpa using K)
    ·simp only [execOp,B,resolve,hf,FJ,Deferred.ofValue,FL,Ez,invoke]
     simp
   ·cases f0<;>first|exact fE s.boxes j|skip
    all_goals (try(exact fE s.boxes j))
    all_goals (rename_i fa;obtain⟨fa⟩:=fa;cases fa<;>exact fE s.boxes j)
   cases cl<;>first|exact fE s.boxes j|skip
   refine wJ O h W F j (vs:=args.map a.eval) (by simpa using g1) (λi x y J K=>g2 i x y J (by simpa using K)) ?_
   simp only [execOp,B,resolve,hf,FJ,Deferred.ofValue,FL,Ez,invoke]
   simp
  |builtin b=>
   cases b<;>first|exact fE s.boxes j|skip
   case append=>
    rcases l with _|⟨x,_|⟨y,_|⟨z,l⟩⟩⟩<;>first|exact fE s.boxes j|skip
    by_cases I:argTypes.size=2
    rotate_left
    ·simp only [I,if_false]at j;exact fE s.boxes j
    simp only [I,if_true]at j
    obtain⟨L,y',E⟩:∃L y',args.toList=[L,y']:=by
     rcases hq:args.toList with _|⟨p,_|⟨q,_|⟨z,l⟩⟩⟩<;>simp [hq]at g1
     exact⟨p,q,rfl⟩
    have G:args= #[L,y']:=by apply Fq;exact E
    subst G
    obtain⟨t1,t2,Q⟩:∃t1 t2,argTypes= #[t1,t2]:=by
     obtain⟨l⟩:=argTypes
     rcases l with _|⟨p,_|⟨q,_|⟨z,l⟩⟩⟩<;>simp at I
     exact⟨p,q,rfl⟩
    subst Q
    have J:=g2 0 x (a.eval L) rfl rfl
    have K:=g2 1 y (a.eval y') rfl rfl
    by_cases a7:t1=t2
    rotate_left
    ·have a5:AE P (o.dst.getD 0*16) t1 t2 x y s.boxes=some ((v,u),r,true):=by
      rw [if_neg (show ¬(#[t1,t2]:Array TypeId).getD 0 0=(#[t1,t2]:Array TypeId).getD 1 0 from a7)]at j
      exact j
     obtain⟨v',w',loc',C,H,T⟩:=CA (ty:=o.type) h a5 J K
     refine xI.value W F (v':=v') (w':=w') ?_ H T
     simp only [execOp,B,resolve,FJ,FL,Ez,invoke,builtin,Fm,Fk,Fl]
     have N:(Builtin.append_ #[t1,t2] o.type #[a.eval L,a.eval y']).run P w= .ok v' w':=C
     rw [N]
     rfl
    rw [if_pos (show(#[t1,t2]:Array TypeId).getD 0 0=(#[t1,t2]:Array TypeId).getD 1 0 from a7)]at j
    replace j:uV P (o.dst.getD 0*16) t1 t2 x y s.boxes=some ((v,u),r,true):=j
    obtain⟨Q,v',w',S',loc',C,H,T⟩:=BH (ty:=o.type) h j J K
    subst Q
    refine xI.value W F (v':=v') (w':=w') ?_ H T
    simp only [execOp,B,resolve,FJ,FL,Ez,invoke,builtin,Fm,Fk,Fl]
    have N:(Builtin.append_ #[t1,t1] o.type #[a.eval L,a.eval y']).run P w= .ok v' w':=C
    rw [N]
    rfl
   case copy=>
    rcases l with _|⟨x,_|⟨y,_|⟨z,l⟩⟩⟩<;>first|exact fE s.boxes j|skip
    by_cases I:argTypes.size=2
    rotate_left
    ·simp only [I,if_false]at j;exact fE s.boxes j
    simp only [I,if_true]at j
    obtain⟨L,y',E⟩:∃L y',args.toList=[L,y']:=by
     rcases hq:args.toList with _|⟨p,_|⟨q,_|⟨z,l⟩⟩⟩<;>simp [hq]at g1
     exact⟨p,q,rfl⟩
    have G:args= #[L,y']:=by apply Fq;exact E
    subst G
    obtain⟨t1,t2,Q⟩:∃t1 t2,argTypes= #[t1,t2]:=by
     obtain⟨l⟩:=argTypes
     rcases l with _|⟨p,_|⟨q,_|⟨z,l⟩⟩⟩<;>simp at I
     exact⟨p,q,rfl⟩
    subst Q
    have J:=g2 0 x (a.eval L) rfl rfl
    have K:=g2 1 y (a.eval y') rfl rfl
    replace j:yW P t1 x y s.boxes=some ((v,u),r,true):=j
    obtain⟨v',w',S',loc',C,H,T⟩:=CM (t':=t2) (ty:=o.type) h j J K
    refine xI.value W F (v':=v') (w':=w') ?_ H T
    simp only [execOp,B,resolve,FJ,FL,Ez,invoke,builtin,Fm,Fk,Fl]
    have N:(Builtin.copy_ #[t1,t2] o.type #[a.eval L,a.eval y']).run P w= .ok v' w':=C
    rw [N]
    rfl
   case clear=>
    rcases l with _|⟨x,_|⟨y,l⟩⟩<;>first|exact fE s.boxes j|skip
    obtain⟨L,E⟩:∃L,args.toList=[L]:=by
     rcases hq:args.toList with _|⟨p,_|⟨q,l⟩⟩<;>simp [hq]at g1
     exact⟨p,rfl⟩
    have G:args= #[L]:=by apply Fq;exact E
    subst G
    have J:=g2 0 x (a.eval L) rfl rfl
    by_cases I:argTypes.size=1
    rotate_left
    ·simp only [I,if_false]at j;exact fE s.boxes j
    simp only [I,if_true]at j
    obtain⟨t1,Q⟩:∃t1,argTypes= #[t1]:=by
     obtain⟨l⟩:=argTypes
     rcases l with _|⟨p,_|⟨q,l⟩⟩<;>simp at I
     exact⟨p,rfl⟩
    subst Q
    replace j:xn P t1 x s.boxes=some ((v,u),r,true):=j
    obtain⟨v',w',S',loc',C,H,T⟩:=B9 (ty:=o.type) h j J
    refine xI.value W F (v':=v') (w':=w') ?_ H T
    simp only [execOp,B,resolve,FJ,FL,Ez,invoke,builtin,Fm,Fk,Fl]
    have N:(Builtin.clear_ #[t1] o.type #[a.eval L]).run P w= .ok v' w':=C
    rw [N]
    rfl
   case min=>
    obtain⟨v',C,H,rfl⟩:=DH (P:=P) (w:=w) (ts:=argTypes) (ty:=o.type) (vs:=args.map a.eval) j (by simpa using g1) (λi x y J K=>g2 i x y J (by simpa using K))
    refine xI.value W F (v':=v') (w':=w) ?_ h H
    simp only [execOp,B,resolve,FJ,FL,Ez,invoke,builtin]
    rw [C]
    rfl
   case max=>
    obtain⟨v',C,H,rfl⟩:=DG (P:=P) (w:=w) (ts:=argTypes) (ty:=o.type) (vs:=args.map a.eval) j (by simpa using g1) (λi x y J K=>g2 i x y J (by simpa using K))
    refine xI.value W F (v':=v') (w':=w) ?_ h H
    simp only [execOp,B,resolve,FJ,FL,Ez,invoke,builtin]
    rw [C]
    rfl
   case cap=>
    rcases l with _|⟨x,_|⟨y,l⟩⟩<;>first|exact fE s.boxes j|skip
    obtain⟨L,E⟩:∃L,args.toList=[L]:=by
     rcases hq:args.toList with _|⟨p,_|⟨q,l⟩⟩<;>simp [hq]at g1
     exact⟨p,rfl⟩
    have G:args= #[L]:=by apply Fq;exact E
    subst G
    have J:=g2 0 x (a.eval L) rfl rfl
    by_cases I:argTypes.size=1
    rotate_left
    ·simp only [I,if_false]at j;exact fE s.boxes j
    simp only [I,if_true]at j
    obtain⟨t1,Q⟩:∃t1,argTypes= #[t1]:=by
     obtain⟨l⟩:=argTypes
     rcases l with _|⟨p,_|⟨q,l⟩⟩<;>simp at I
     exact⟨p,rfl⟩
    subst Q
    obtain⟨v',C,H,rfl⟩:=Dn (ty:=o.type) h j J
    refine xI.value W F (v':=v') (w':=w) ?_ h H
    simp only [execOp,B,resolve,FJ,FL,Ez,invoke,builtin,Fm,Fk,Fl]
    have N:(Builtin.cap_ #[t1] o.type #[a.eval L]).run P w= .ok v' w:=C
    rw [N]
    rfl
   case len=>
    rcases l with _|⟨x,_|⟨y,l⟩⟩<;>first|exact fE s.boxes j|skip
    obtain⟨L,E⟩:∃L,args.toList=[L]:=by
     rcases hq:args.toList with _|⟨p,_|⟨q,l⟩⟩<;>simp [hq]at g1
     exact⟨p,rfl⟩
    have G:args= #[L]:=by apply Fq;exact E
    subst G
    have J:=g2 0 x (a.eval L) rfl rfl
    by_cases I:argTypes.size=1
    rotate_left
    ·simp only [I,if_false]at j;exact fE s.boxes j
    simp only [I,if_true]at j
    obtain⟨t1,Q⟩:∃t1,argTypes= #[t1]:=by
     obtain⟨l⟩:=argTypes
     rcases l with _|⟨p,_|⟨q,l⟩⟩<;>simp at I
     exact⟨p,rfl⟩
    subst Q
    obtain⟨v',C,H,rfl⟩:=DE (ty:=o.type) h j J
    refine xI.value W F (v':=v') (w':=w) ?_ h H
    simp only [execOp,B,resolve,FJ,FL,Ez,invoke,builtin,Fm,Fk,Fl]
    have N:(Builtin.len_ #[t1] o.type #[a.eval L]).run P w= .ok v' w:=C
    rw [N]
    rfl
end
end Go.Dw
