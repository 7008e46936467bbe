
import Derived.Test.YtikangmionpjfaaGreatDwLoad
import Derived.MapKept
open Nat renaming add_assoc->CH, le_refl->B6
open Go.Builtin renaming len_->CI

namespace Go.Dw
section
variable {P:Program}{X:Ctx}{S:pr}{loc:pY}{s:St}{tm:Array Value}{w:World}
theorem vr(h:Sim P X S loc s tm w){off:Nat}{x v:RV}{u:Ups}{r:List Nat}{I:Value}(l:vY off x s.boxes=some ((v,u),r,true))(E:R S loc x I):
  ∃a:Addr,I= .pointer (some a)∧R S loc v (.pointer (some (a.add off)))∧u=[]∧a.spot=none:=by
 cases x with
 |cptr cs=>
  replace l:qe (.cptr (cs.drop off)) s.boxes=some ((v,u),r,true):=l
  obtain⟨h1, -, -⟩:=pw l
  cases h1
  cases E with
  |cptr _ b o f hS hV=>
   refine⟨_,rfl,?_,rfl,rfl⟩
   rw [qg]
   refine .cptr _ b (o+off) (fun j=>f (off+j)) (fun j c C=>?_) (fun j c C=>?_)
   ·rw [List.getElem?_drop]at C
    have:=hS _ c C
    rwa [<-CH]at this
   ·rw [List.getElem?_drop]at C
    exact hV _ c C
 |ptr id o=>
  obtain⟨F,K,L,h1,t,_⟩:=M.bind_some l
  obtain⟨D,_,_⟩:=M.get_some h1
  cases F with
  |var cs=>
   obtain⟨B, -, -⟩:=pw t
   cases B
   obtain⟨b,ty,vs,y,rfl,hw,hlen,O⟩:=h.zX D E
   refine⟨_,rfl,?_,rfl,rfl⟩
   rw [qg]
   exact .ptr id (o+off) _ _ rfl y fun b'=>⟨(fun he=>by cases he;rfl),(fun he=>by cases he)⟩
  |arr _ _ _=>exact fE s.boxes t
  |dead=>exact fE s.boxes t
  |map _ _ _=>exact fE s.boxes t
  |nest _ _ _ _ _=>exact fE s.boxes t
  |hole _ _ _ _ _ _=>exact fE s.boxes t
 |elt id ver i o=>
  obtain⟨F,K,L,h1,t,_⟩:=M.bind_some l
  obtain⟨D,_,_⟩:=M.get_some h1
  cases F with
  |arr z e es=>
   by_cases k:ver=z
   rotate_left
   ·simp only [k,if_false]at t;exact fE s.boxes t
   simp only [k,if_true]at t
   subst k
   obtain⟨B, -, -⟩:=pw t
   cases B
   obtain⟨sz,xs,g,n,c,y,rfl,G,how,hf⟩:=h.A3 D E
   refine⟨_,rfl,?_,rfl,rfl⟩
   rw [qg]
   refine .elt id ver i (o+off) _ _ rfl y fun z J H hdr he=>?_
   cases he
   exact⟨B6 _,fun _=>⟨g,n,c,rfl,by rw [CH]⟩⟩
  |var _=>exact fE s.boxes t
  |dead=>exact fE s.boxes t
  |map _ _ _=>exact fE s.boxes t
  |nest _ _ _ _ _=>exact fE s.boxes t
  |hole z e es j q rv=>
   by_cases k:ver=z
   rotate_left
   ·simp only [k,if_false]at t;exact fE s.boxes t
   simp only [k,if_true]at t
   subst k
   obtain⟨B, -, -⟩:=pw t
   cases B
   obtain⟨sz,xs,u,g,n,c,y,rfl,G,how,hf,hi,ho,hu,N⟩:=h.zD D E
   refine⟨_,rfl,?_,rfl,rfl⟩
   rw [qg]
   refine .elt id ver i (o+off) _ _ rfl y fun z J H hdr he=>?_
   cases he
   exact⟨B6 _,fun _=>⟨g,n,c,rfl,by rw [CH]⟩⟩
 |d p=>exact fE s.boxes l
 |undef=>exact fE s.boxes l
 |junk=>exact fE s.boxes l
 |px=>exact fE s.boxes l
 |agg cs=>exact fE s.boxes l
 |tup cs=>exact fE s.boxes l
 |ref a b=>exact fE s.boxes l
 |view a b c d=>exact fE s.boxes l
 |clo a b=>exact fE s.boxes l
 |fview _ _ _=>exact fE s.boxes l
 |err _=>exact fE s.boxes l
 |dfull _=>exact fE s.boxes l
 |ifc _ _=>exact fE s.boxes l
 |plit _=>exact fE s.boxes l
 |pcp _=>exact fE s.boxes l
theorem vX{t:TypeId}{f off:Nat}{c:TypeId}(h:uh P t f=some (off,c)):∃a x,P.underlying t=some (.struct a)∧a[f]? =some x∧x.offset=off∧x.type=c:=by
 unfold uh at h
 split at h
 ·rename_i a hu
  split at h
  ·rename_i x g
   simp only [Option.some.injEq,Prod.mk.injEq]at h
   exact⟨a,x,hu,g,h.1,h.2⟩
  ·cases h
 ·cases h
theorem w4(h:Sim P X S loc s tm w){t:TypeId}{f:Nat}{x v:RV}{u:Ups}{r:List Nat}{g:Value}(c:rG P t x f s.boxes=some ((v,u),r,true))(q:R S loc x g):
  ∃v',(Instr.fieldAt t g f).run P w= .ok v' w∧R S loc v v'∧u=[]:=by
 unfold rG at c
 rcases hf:uh P t f with _|⟨off,j⟩
 ·simp only [hf]at c;exact fE s.boxes c
 simp only [hf]at c
 rcases hk:szT P j with _|_|k
 ·simp only [hk]at c;exact fE s.boxes c
 ·simp only [hk]at c;exact fE s.boxes c
 simp only [hk]at c
 obtain⟨a,rfl,p,hu,_⟩:=vr h c q
 obtain⟨z,y,h1,l,rfl,rfl⟩:=vX hf
 refine⟨_,?_,p,hu⟩
 simp [Instr.fieldAt,run_underlying h1,l,Instr.sureAddr,fieldPlace,pC hk]
theorem zx{t:TypeId}{f:Nat}{x v:RV}{b:pP}{u:Ups}{r:List Nat}{c:Value}(a:wb P t x f b=some ((v,u),r,true))(q:R S loc x c):
  ∃v',(Instr.field t c f).run P w= .ok v' w∧R S loc v v'∧u=[]:=by
 unfold wb at a
 rcases hf:uh P t f with _|⟨off,B⟩
 ·simp only [hf]at a;exact fE b a
 rcases hc:ub x with _|cs
 ·simp only [hf,hc]at a;exact fE b a
 simp only [hf,hc]at a
 obtain⟨vs,rfl,hlen,p⟩:=u7 hc q
 obtain⟨z,y,h1,g,rfl,rfl⟩:=vX hf
 obtain⟨v',j,k,l⟩:=xB (P:=P) (w:=w) a hlen p
 exact⟨v',by simp [Instr.field,run_underlying h1,g,asAgg,j],k,l⟩
theorem qo{t e:TypeId}(h:qc P t=some e):P.underlying t=some (.slice e):=by
 unfold qc at h
 split at h<;>simp_all
theorem zH{t:TypeId}{x i v:RV}{b:pP}{u:Ups}{r:List Nat}{y q:Value}(a:vp P t x i b=some ((v,u),r,true))(j:R S loc x y)(hi:R S loc i q):
  ∃v',(Instr.index t y q).run P w= .ok v' w∧R S loc v v'∧u=[]:=by
 unfold vp at a
 rcases hu:P.underlying t with _|ty
 ·simp only [hu]at a;exact fE b a
 rw [hu]at a
 cases ty<;>first|exact fE b a|skip
 ·simp only [we]at a
  rcases x with p|_|_|_|_|_|_|_|_|_|_|_|_<;>first|exact fE b a|skip
  cases p<;>first|exact fE b a|skip
  rename_i l
  rcases i with p|_|_|_|_|_|_|_|_|_|_|_|_<;>first|exact fE b a|skip
  cases p<;>first|exact fE b a|skip
  rename_i k n
  obtain⟨h1, -,f⟩:=pQ a
  cases h1
  have c:0<=n∧n<l.length:=of_decide_eq_true f.symm
  have z:=j.uP
  have e2:=hi.pU
  subst z;subst e2
  refine⟨_,?_,.d (.int _ _),rfl⟩
  rw [run_index_string w t _ k n hu,dif_pos (by rw [xM];exact c)]
  have g:n.toNat<l.length:=by omega
  simp [g]
  rfl
 ·rename_i len e
  simp only [w6]at a
  rcases hc:ub x with _|cs
  ·simp only [hc]at a;exact fE b a
  rw [hc]at a
  rcases i with p|_|_|_|_|_|_|_|_|_|_|_|_<;>first|exact fE b a|skip
  cases p<;>first|exact fE b a|skip
  rename_i k n
  rcases hk:szT P e with _|m
  ·simp only [hk]at a;exact fE b a
  simp only [hk]at a
  obtain⟨⟨⟩,G,H,h1,B,_⟩:=M.bind_some a
  obtain⟨-, -,f⟩:=M.pq h1
  have c:0<=n∧n<len:=of_decide_eq_true f.symm
  have e2:=hi.pU
  subst e2
  obtain⟨vs,rfl,hlen,F⟩:=u7 hc j
  obtain⟨v',C,D,E⟩:=xB (P:=P) (w:=w) B hlen F
  refine⟨v',?_,D,E⟩
  simp [Instr.index,asIntOf,run_underlying hu,c.1,c.2,pC hk,C]
theorem xL{es:List PD}{v:Value}(h:V S (.lst es) v):∃a c,v= .slice a es.length c∧es.length<=c:=by
 generalize hp:PD.lst es=p at h
 cases h with
 |nil a c=>cases hp;exact⟨a,c,rfl,Nat.zero_le _⟩
 |lst g b o c sz f hc j hS hV=>cases hp;exact⟨_,c,rfl,hc⟩
 |bool _=>cases hp
 |int _ _=>cases hp
 |str _=>cases hp
 |raw _ _=>cases hp
 |agg _ _ _ _=>cases hp
theorem V.elem{es:List PD}{v:Value}(h:V S (.lst es) v){i:Nat}{e:PD}(he:es[i]? =some e):
  ∃(b o c sz:Nat)(f:Nat->Nat->Value),v= .slice (some ⟨b,o,none⟩) es.length c∧es.length<=c∧(∀e∈es,e.cells.length=sz)∧
   (∀(i:Nat)e(j:Nat)x,es[i]? =some e->e.cells[j]? =some x->S ⟨b,o+i*sz+j,none⟩=some (f i j))∧
   (∀(i:Nat)e(j:Nat)x,es[i]? =some e->e.cells[j]? =some x->V S x (f i j)):=by
 generalize hp:PD.lst es=p at h
 cases h with
 |nil a c=>cases hp;simp at he
 |lst k b o c sz f hc g hS hV=>cases hp;exact⟨b,o,c,sz,f,rfl,hc,g,hS,hV⟩
 |bool _=>cases hp
 |int _ _=>cases hp
 |str _=>cases hp
 |raw _ _=>cases hp
 |agg _ _ _ _=>cases hp
theorem qQ{t e:TypeId}{k:Nat}(hu:P.underlying t=some (.slice e))(hk:szT P e=some k){a:Addr}{n:Nat}{c:Nat}{f:IntKind}{i:Int}(h:0<=i∧i<n):
  (Instr.indexAt t (.slice (some a) n c) (.int f i)).run P w= .ok (.pointer (some (a.add (i.toNat*k)))) w:=by
 simp [Instr.indexAt,asIntOf,run_underlying hu,h,pC hk]
theorem qH{e sz n:Nat}{v:Value}{xs:List Value}(h:qM w e sz v n xs)(f:0<n):∃g c,v= .slice (some ⟨g,0,none⟩) n c:=by
 rcases h.2 with⟨_,a⟩|⟨g,cap,cur,_,rfl,_⟩
 ·omega
 ·exact⟨g,cap,rfl⟩
theorem w7(h:Sim P X S loc s tm w){t:TypeId}{x i v:RV}{u:Ups}{r:List Nat}{vx vi:Value}(D:qw P t x i s.boxes=some ((v,u),r,true))(K:R S loc x vx)(hi:R S loc i vi):
  ∃v',(Instr.indexAt t vx vi).run P w= .ok v' w∧R S loc v v'∧u=[]:=by
 unfold qw at D
 rcases hu:P.underlying t with _|ty
 ·simp only [hu]at D;exact fE s.boxes D
 rw [hu]at D
 cases ty<;>first|exact fE s.boxes D|skip
 case slice e=>
  rcases i with p|_|_|_|_|_|_|_|_|_|_|_|_<;>first|exact fE s.boxes D|skip
  cases p<;>first|exact fE s.boxes D|skip
  rename_i ki n
  have e2:=hi.pU
  subst e2
  rcases hk:szT P e with _|k
  ·simp only [hk]at D;exact fE s.boxes D
  simp only [hk]at D
  by_cases Q:∃cs,x= .plit cs
  ·obtain⟨cs,rfl⟩:=Q
   obtain⟨h1, -,E⟩:=pQ D
   cases h1
   simp only [Bool.true_eq,Bool.and_eq_true]at E
   have G:=of_decide_eq_true E.1
   obtain rfl:=of_decide_eq_true E.2
   cases K with
   |plit _ b o c f hc hS hV=>
    have O:n.toNat<cs.length:=by omega
    have hg:cs[n.toNat]? =some (cs.getD n.toNat default):=by simp [List.getD,zd O]
    refine⟨_,qQ hu hk G,?_,rfl⟩
    rw [qg,Nat.mul_one]
    exact .pcp _ b _ _ (hS _ _ hg) (hV _ _ hg)
  rcases x with p|_|_|_|_|_|⟨id,ver⟩|_|_|_|_|_|_<;>first|exact fE s.boxes D|exact(Q ⟨_,rfl⟩).elim|skip
  ·cases p<;>first|exact fE s.boxes D|skip
   rename_i es
   obtain⟨h1, -,E⟩:=pQ D
   cases h1
   simp only [Bool.true_eq,Bool.and_eq_true,beq_iff_eq]at E
   obtain⟨E,I⟩:=E
   have G:=of_decide_eq_true E
   have F:es[n.toNat]? =some (es.getD n.toNat default):=by
    rw [List.getD_eq_getElem?_getD,zd za];rfl
   obtain⟨b,o,c,sz,f,rfl,hc,B,hS,hV⟩:=K.uH.elem F
   have T:sz=k:=by rw [<-B _ (List.mem_of_getElem? F)];exact I
   subst T
   refine⟨_,qQ hu hk G,?_,rfl⟩
   rw [qg]
   exact .cptr _ b _ (fun j=>f n.toNat j) (fun j c hj=>hS _ _ j c F hj) (fun j c hj=>hV _ _ j c F hj)
  ·obtain⟨Y,r1,r2,h1,z,_⟩:=M.bind_some D
   obtain⟨N,_,_⟩:=M.get_some h1
   cases Y with
   |arr y H es=>
    by_cases l:ver=y∧e=H
    rotate_left
    ·simp only [l,if_false]at z;exact fE s.boxes z
    simp only [l,and_self,if_true]at z
    obtain⟨rfl,rfl⟩:=l
    obtain⟨E, -,I⟩:=pQ z
    cases E
    have G:0<=n∧n<es.length:=of_decide_eq_true I.symm
    obtain⟨sz,xs,C,B,how,hf⟩:=h.tT N K
    obtain⟨g,c,rfl⟩:=qH (how.rz za) za
    rw [hk]at B
    cases B
    refine⟨_,qQ hu hk G,?_,rfl⟩
    rw [qg]
    refine .elt id ver n.toNat 0 _ _ rfl C fun y H L hdr he=>?_
    cases he
    exact⟨B6 _,fun _=>⟨g,_,c,rfl,sm⟩⟩
   |var _=>exact fE s.boxes z
   |dead=>exact fE s.boxes z
   |map _ _ _=>exact fE s.boxes z
   |hole y H es j q rv=>
    by_cases l:ver=y∧e=H
    rotate_left
    ·simp only [l,if_false]at z;exact fE s.boxes z
    simp only [l,and_self,if_true]at z
    obtain⟨rfl,rfl⟩:=l
    obtain⟨E, -,I⟩:=pQ z
    cases E
    have G:0<=n∧n<es.length:=of_decide_eq_true I.symm
    obtain⟨sz,xs,u,C,B,how,hf,J,ho,W,hr⟩:=h.Bw N K
    obtain⟨g,c,rfl⟩:=qH (how.rz za) za
    rw [hk]at B
    cases B
    refine⟨_,qQ hu hk G,?_,rfl⟩
    rw [qg]
    refine .elt id ver n.toNat 0 _ _ rfl C fun y H L hdr he=>?_
    cases he
    exact⟨B6 _,fun _=>⟨g,_,c,rfl,sm⟩⟩
   |nest y H e2 ess hh=>
    by_cases l:ver=y∧e=H
    rotate_left
    ·simp only [l,if_false]at z;exact fE s.boxes z
    simp only [l,and_self,if_true]at z
    obtain⟨rfl,rfl⟩:=l
    obtain⟨E, -,I⟩:=pQ z
    cases E
    have G:0<=n∧n<ess.length:=of_decide_eq_true I.symm
    obtain⟨xs,bs,k2,C,B,a7,how,a5,a6,O⟩:=h.zN N K
    obtain⟨g,c,rfl⟩:=qH (how.rz za) za
    rw [hk]at B
    cases B
    refine⟨_,qQ hu hk G,?_,rfl⟩
    rw [qg]
    refine .elt id ver n.toNat 0 _ _ rfl C fun y H L hdr he=>?_
    cases he
    exact⟨B6 _,fun _=>⟨g,_,c,rfl,sm⟩⟩
  ·rename_i id ver lo J
   obtain⟨Y,r1,r2,h1,z,_⟩:=M.bind_some D
   obtain⟨N,_,_⟩:=M.get_some h1
   cases Y with
   |arr y H es=>
    by_cases l:ver=y∧e=H
    rotate_left
    ·simp only [l,if_false]at z;exact fE s.boxes z
    simp only [l,and_self,if_true]at z
    obtain⟨rfl,rfl⟩:=l
    obtain⟨E, -,I⟩:=pQ z
    cases E
    have G:0<=n∧n<(J:Int)-lo∧J<=es.length:=of_decide_eq_true I.symm
    obtain⟨sz,xs,hdr,C,B,how,hf,ho,hd⟩:=h.wV N K
    rw [hk]at B
    cases B
    rcases hd with⟨h5,_⟩|⟨g,m,c,rfl,h5,h6,rfl⟩
    ·omega
    refine⟨_,qQ hu hk (n:=J-lo) za,?_,rfl⟩
    rw [qg]
    refine .elt id ver (lo+n.toNat) 0 _ _ rfl C fun y H L hdr he=>?_
    cases he
    exact⟨B6 _,fun _=>⟨g,_,c,rfl,by rw [Nat.add_mul];simp⟩⟩
   |var _=>exact fE s.boxes z
   |dead=>exact fE s.boxes z
   |map _ _ _=>exact fE s.boxes z
   |nest _ _ _ _ _=>exact fE s.boxes z
   |hole _ _ _ _ _ _=>exact fE s.boxes z
 case array len e=>
  rcases i with p|_|_|_|_|_|_|_|_|_|_|_|_<;>first|exact fE s.boxes D|skip
  cases p<;>first|exact fE s.boxes D|skip
  rename_i ki n
  have e2:=hi.pU
  subst e2
  rcases hk:szT P e with _|k
  ·simp only [hk]at D;exact fE s.boxes D
  simp only [hk]at D
  obtain⟨_,r1,r2,h1,z,_⟩:=M.bind_some D
  obtain⟨-, -,E⟩:=M.pq h1
  have G:0<=n∧n<len:=of_decide_eq_true E.symm
  obtain⟨a,rfl,hr,W,_⟩:=vr h z K
  refine⟨_,?_,hr,W⟩
  simp [Instr.indexAt,asIntOf,run_underlying hu,G,pC hk,Instr.sureAddr]
theorem Sim.Be(h:Sim P X S loc s tm w){id:Nat}{t u:TypeId}{es:List (PD×PD)}{v:Value}(l:s.boxes id=some (.map t u es))(q:R S loc (.ptr id 0) v):
  ∃b clock a,loc id=some (.map b)∧v= .map (some b)∧w.heap[b]? =some (.map a clock)∧a.size=es.length∧
   ∀(i:Nat)k x f,es[i]? =some (k,x)->a[i]? =some f->V S k f.key∧V S x f.val:=by
 obtain⟨L,j,g⟩:=h.boxes id _ l
 cases q with
 |ptr _ _ _ y _ c r=>
  rw [j]at c
  cases c
  cases g with
  |map _ _ _ b clock a hw p hc=>exact⟨b,clock,a,j,(r b).2 .map,hw,p,hc⟩
theorem Bc(h:Sim P X S loc s tm w){t ty:TypeId}{x v:RV}{u:Ups}{r:List Nat}{T:Value}(B:yq P t x s.boxes=some ((v,u),r,true))(F:R S loc x T):
  ∃v',(CI #[t] ty #[T]).run P w= .ok v' w∧R S loc v v'∧u=[]:=by
 unfold yq at B
 rcases hu:P.underlying t with _|d
 ·simp only [hu]at B;exact fE s.boxes B
 rw [hu]at B
 cases d<;>first|exact fE s.boxes B|skip
 case map kt vt=>
  rcases x with p|_|_|_|_|_|_|⟨id,off⟩|_|_|_|_|_<;>first|exact fE s.boxes B|skip
  cases off<;>first|exact fE s.boxes B|skip
  obtain⟨I,O,Q,h1,y,_⟩:=M.bind_some B
  obtain⟨G,_,_⟩:=M.get_some h1
  cases I<;>first|exact fE s.boxes y|skip
  rename_i b0 b3 es
  obtain⟨E, -, -⟩:=pw y
  cases E
  obtain⟨b,clock,J,_,rfl,hw,N,_⟩:=h.Be G F
  refine⟨goInt J.size,?_,?_,rfl⟩
  ·simp [CI,run_underlying hu,MapKept.run_getObj_map hw,Result.andThen]
  ·rw [N];exact .d (.int _ _)
 case string=>
  rcases x with p|_|_|_|_|_|_|_|_|_|_|_|_<;>first|exact fE s.boxes B|skip
  cases p<;>first|exact fE s.boxes B|skip
  rename_i l
  obtain⟨h1, -, -⟩:=pw B
  cases h1
  have Y:=F.uP
  subst Y
  exact⟨_,run_len_string w t ty _ hu,by rw [xM];exact .d (.int _ _),rfl⟩
 case slice e=>
  by_cases K:∃cs,x= .plit cs
  ·obtain⟨cs,rfl⟩:=K
   obtain⟨h1, -, -⟩:=pw B
   cases h1
   cases F with
   |plit _ b o c f hc hS hV=>exact⟨goInt cs.length,by simp [CI,run_underlying hu],.d (.int _ _),rfl⟩
  rcases x with p|_|_|_|_|_|⟨id,ver⟩|_|_|_|_|_|_<;>first|exact fE s.boxes B|exact(K ⟨_,rfl⟩).elim|skip
  ·cases p<;>first|exact fE s.boxes B|skip
   rename_i es
   obtain⟨h1, -, -⟩:=pw B
   cases h1
   obtain⟨a,c,rfl,_⟩:=xL F.uH
   exact⟨goInt es.length,by simp [CI,run_underlying hu],.d (.int _ _),rfl⟩
  ·obtain⟨h1, -, -⟩:=pw B
   cases h1
   cases F with
   |px=>exact⟨goInt 0,by simp [CI,run_underlying hu],.d (.int _ _),rfl⟩
  ·obtain⟨I,O,Q,h1,y,_⟩:=M.bind_some B
   obtain⟨G,_,_⟩:=M.get_some h1
   cases I with
   |arr z L es=>
    by_cases k:ver=z
    rotate_left
    ·simp only [k,if_false]at y;exact fE s.boxes y
    simp only [k,if_true]at y
    subst k
    obtain⟨E, -, -⟩:=pw y
    cases E
    obtain⟨sz,xs,D,H,how,hf⟩:=h.tT G F
    obtain⟨a,c,rfl,_⟩:=how.hdr
    exact⟨goInt es.length,by simp [CI,run_underlying hu],.d (.int _ _),rfl⟩
   |var _=>exact fE s.boxes y
   |dead=>exact fE s.boxes y
   |map _ _ _=>exact fE s.boxes y
   |hole z L es j q rv=>
    by_cases k:ver=z
    rotate_left
    ·simp only [k,if_false]at y;exact fE s.boxes y
    simp only [k,if_true]at y
    subst k
    obtain⟨E, -, -⟩:=pw y
    cases E
    obtain⟨sz,xs,u',D,H,how,hf,C,ho,a9,hr⟩:=h.Bw G F
    obtain⟨a,c,rfl,_⟩:=how.hdr
    exact⟨goInt es.length,by simp [CI,run_underlying hu],.d (.int _ _),rfl⟩
   |nest z L e2 ess hh=>
    by_cases k:ver=z
    rotate_left
    ·simp only [k,if_false]at y;exact fE s.boxes y
    simp only [k,if_true]at y
    subst k
    obtain⟨E, -, -⟩:=pw y
    cases E
    obtain⟨xs,bs,k2,D,H,a8,how,a6,a7,a5⟩:=h.zN G F
    obtain⟨a,c,rfl,_⟩:=how.hdr
    exact⟨goInt ess.length,by simp [CI,run_underlying hu],.d (.int _ _),rfl⟩
  ·rename_i id ver lo C
   obtain⟨I,O,Q,h1,y,_⟩:=M.bind_some B
   obtain⟨G,_,_⟩:=M.get_some h1
   cases I with
   |arr z L es=>
    by_cases k:ver=z
    rotate_left
    ·simp only [k,if_false]at y;exact fE s.boxes y
    simp only [k,if_true]at y
    subst k
    obtain⟨E, -,h4⟩:=pQ y
    cases E
    have hn:lo<=C∧C<=es.length:=of_decide_eq_true h4.symm
    obtain⟨sz,xs,hdr,D,H,how,hf,ho,hd⟩:=h.wV G F
    have W:((C:Int)-lo)=((C-lo:Nat):Int):=by omega
    rw [W]
    rcases hd with⟨rfl,a,rfl⟩|⟨g,m,c,rfl,h5,h6,rfl⟩
    ·exact⟨goInt 0,by simp [CI,run_underlying hu],by rw [Nat.sub_self];exact .d (.int _ _),rfl⟩
    ·exact⟨goInt (C-lo:Nat),by simp [CI,run_underlying hu],.d (.int _ _),rfl⟩
   |var _=>exact fE s.boxes y
   |dead=>exact fE s.boxes y
   |map _ _ _=>exact fE s.boxes y
   |nest _ _ _ _ _=>exact fE s.boxes y
   |hole _ _ _ _ _ _=>exact fE s.boxes y
end
end Go.Dw
