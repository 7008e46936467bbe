
import Derived.Test.YtomapcboiinfdaaGreatDwLoad
import Derived.MapKept
open Nat renaming add_assoc->AM, le_refl->AB
open Go.Builtin renaming len_->AN

namespace Go.Dw
section
variable {P:Program}{X:Ctx}{S:mW}{loc:nB}{s:St}{tm:Array Value}{w:World}
theorem rZ(h:Sim P X S loc s tm w){off:Nat}{x v:RV}{u:Ups}{r:List Nat}{H:Value}(l:sX off x s.boxes=some ((v,u),r,true))(D:R S loc x H):
  ∃a:Addr,H= .pointer (some a)∧R S loc v (.pointer (some (a.add off)))∧u=[]∧a.spot=none:=by
 cases x with
 |cptr cs=>
  replace l:nG (.cptr (cs.drop off)) s.boxes=some ((v,u),r,true):=l
  obtain⟨h1, -, -⟩:=mQ l
  cases h1
  cases D with
  |cptr _ b o f hS hV=>
   refine⟨_,rfl,?_,rfl,rfl⟩
   rw [nO]
   refine .cptr _ b (o+off) (fun j=>f (off+j)) (fun j c B=>?_) (fun j c B=>?_)
   ·rw [List.getElem?_drop]at B
    have:=hS _ c B
    rwa [<-AM]at this
   ·rw [List.getElem?_drop]at B
    exact hV _ c B
 |ptr id o=>
  obtain⟨E,J,K,h1,m,_⟩:=M.bind_some l
  obtain⟨C,_,_⟩:=M.get_some h1
  cases E with
  |var cs=>
   obtain⟨z, -, -⟩:=mQ m
   cases z
   obtain⟨b,ty,vs,t,rfl,hw,hlen,O⟩:=h.xh C D
   refine⟨_,rfl,?_,rfl,rfl⟩
   rw [nO]
   exact .ptr id (o+off) _ _ rfl t fun b'=>⟨(fun he=>by cases he;rfl),(fun he=>by cases he)⟩
  |arr _ _ _=>exact fE s.boxes m
  |dead=>exact fE s.boxes m
  |map _ _ _=>exact fE s.boxes m
  |nest _ _ _ _ _=>exact fE s.boxes m
  |hole _ _ _ _ _ _=>exact fE s.boxes m
 |elt id ver i o=>
  obtain⟨E,J,K,h1,m,_⟩:=M.bind_some l
  obtain⟨C,_,_⟩:=M.get_some h1
  cases E with
  |arr y e es=>
   by_cases k:ver=y
   rotate_left
   ·simp only [k,if_false]at m;exact fE s.boxes m
   simp only [k,if_true]at m
   subst k
   obtain⟨z, -, -⟩:=mQ m
   cases z
   obtain⟨sz,xs,g,n,c,t,rfl,F,how,hf⟩:=h.yq C D
   refine⟨_,rfl,?_,rfl,rfl⟩
   rw [nO]
   refine .elt id ver i (o+off) _ _ rfl t fun y I G hdr he=>?_
   cases he
   exact⟨AB _,fun _=>⟨g,n,c,rfl,by rw [AM]⟩⟩
  |var _=>exact fE s.boxes m
  |dead=>exact fE s.boxes m
  |map _ _ _=>exact fE s.boxes m
  |nest _ _ _ _ _=>exact fE s.boxes m
  |hole y e es j q rv=>
   by_cases k:ver=y
   rotate_left
   ·simp only [k,if_false]at m;exact fE s.boxes m
   simp only [k,if_true]at m
   subst k
   obtain⟨z, -, -⟩:=mQ m
   cases z
   obtain⟨sz,xs,u,g,n,c,t,rfl,F,how,hf,hi,L,hu,N⟩:=h.wY C D
   refine⟨_,rfl,?_,rfl,rfl⟩
   rw [nO]
   refine .elt id ver i (o+off) _ _ rfl t fun y I G hdr he=>?_
   cases he
   exact⟨AB _,fun _=>⟨g,n,c,rfl,by rw [AM]⟩⟩
 |d p=>exact fE s.boxes l
 |undef=>exact fE s.boxes l
 |junk=>exact fE s.boxes l
 |cI=>exact fE s.boxes l
 |agg cs=>exact fE s.boxes l
 |tup cs=>exact fE s.boxes l
 |ref a b=>exact fE s.boxes l
 |view a b c d=>exact fE s.boxes l
 |clo a b=>exact fE s.boxes l
 |fview _ _ _=>exact fE s.boxes l
 |err _=>exact fE s.boxes l
 |dfull _=>exact fE s.boxes l
 |ifc _ _=>exact fE s.boxes l
 |plit _=>exact fE s.boxes l
 |pcp _=>exact fE s.boxes l
theorem sW{t:TypeId}{f off:Nat}{b:TypeId}(h:qI P t f=some (off,b)):∃a x,P.underlying t=some (.struct a)∧a[f]? =some x∧x.offset=off∧x.type=b:=by
 unfold qI at h
 split at h
 ·rename_i a hu
  split at h
  ·rename_i x c
   simp only [Option.some.injEq,Prod.mk.injEq]at h
   exact⟨a,x,hu,c,h.1,h.2⟩
  ·cases h
 ·cases h
theorem ue(h:Sim P X S loc s tm w){t:TypeId}{f:Nat}{x v:RV}{u:Ups}{r:List Nat}{c:Value}(b:oN P t x f s.boxes=some ((v,u),r,true))(j:R S loc x c):
  ∃v',(Instr.fieldAt t c f).run P w= .ok v' w∧R S loc v v'∧u=[]:=by
 unfold oN at b
 rcases hf:qI P t f with _|⟨off,e⟩
 ·simp only [hf]at b;exact fE s.boxes b
 simp only [hf]at b
 rcases hk:szT P e with _|_|k
 ·simp only [hk]at b;exact fE s.boxes b
 ·simp only [hk]at b;exact fE s.boxes b
 simp only [hk]at b
 obtain⟨a,rfl,i,hu,_⟩:=rZ h b j
 obtain⟨m,l,h1,g,rfl,rfl⟩:=sW hf
 refine⟨_,?_,i,hu⟩
 simp [Instr.fieldAt,run_underlying h1,g,Instr.sureAddr,fieldPlace,mV hk]
theorem wV{t:TypeId}{f:Nat}{x v:RV}{b:nn}{u:Ups}{r:List Nat}{e:Value}(a:tg P t x f b=some ((v,u),r,true))(m:R S loc x e):
  ∃v',(Instr.field t e f).run P w= .ok v' w∧R S loc v v'∧u=[]:=by
 unfold tg at a
 rcases hf:qI P t f with _|⟨off,p⟩
 ·simp only [hf]at a;exact fE b a
 rcases c:qF x with _|cs
 ·simp only [hf,c]at a;exact fE b a
 simp only [hf,c]at a
 obtain⟨vs,rfl,hlen,l⟩:=rN c m
 obtain⟨o,n,h1,g,rfl,rfl⟩:=sW hf
 obtain⟨v',i,j,k⟩:=uO (P:=P) (w:=w) a hlen l
 exact⟨v',by simp [Instr.field,run_underlying h1,g,asAgg,i],j,k⟩
theorem nQ{t e:TypeId}(h:od P t=some e):P.underlying t=some (.slice e):=by
 unfold od at h
 split at h<;>simp_all
theorem w2{t:TypeId}{x i v:RV}{b:nn}{u:Ups}{r:List Nat}{y q:Value}(a:rX P t x i b=some ((v,u),r,true))(o:R S loc x y)(hi:R S loc i q):
  ∃v',(Instr.index t y q).run P w= .ok v' w∧R S loc v v'∧u=[]:=by
 unfold rX at a
 rcases hu:P.underlying t with _|ty
 ·simp only [hu]at a;exact fE b a
 rw [hu]at a
 cases ty<;>first|exact fE b a|skip
 ·simp only [ti]at a
  rcases x with p|_|_|_|_|_|_|_|_|_|_|_|_<;>first|exact fE b a|skip
  cases p<;>first|exact fE b a|skip
  rename_i l
  rcases i with p|_|_|_|_|_|_|_|_|_|_|_|_<;>first|exact fE b a|skip
  cases p<;>first|exact fE b a|skip
  rename_i k n
  obtain⟨h1, -,f⟩:=nk a
  cases h1
  have c:0<=n∧n<l.length:=of_decide_eq_true f.symm
  have z:=o.rC
  have e2:=hi.np
  subst z;subst e2
  refine⟨_,?_,.d (.int _ _),rfl⟩
  rw [run_index_string w t _ k n hu,dif_pos (by rw [uX];exact c)]
  have j:n.toNat<l.length:=by omega
  simp [j]
  rfl
 ·rename_i len e
  simp only [ug]at a
  rcases g:qF x with _|cs
  ·simp only [g]at a;exact fE b a
  rw [g]at a
  rcases i with p|_|_|_|_|_|_|_|_|_|_|_|_<;>first|exact fE b a|skip
  cases p<;>first|exact fE b a|skip
  rename_i k n
  rcases hk:szT P e with _|m
  ·simp only [hk]at a;exact fE b a
  simp only [hk]at a
  obtain⟨⟨⟩,G,H,h1,B,_⟩:=M.bind_some a
  obtain⟨-, -,f⟩:=M.mP h1
  have c:0<=n∧n<len:=of_decide_eq_true f.symm
  have e2:=hi.np
  subst e2
  obtain⟨vs,rfl,hlen,F⟩:=rN g o
  obtain⟨v',C,D,E⟩:=uO (P:=P) (w:=w) B hlen F
  refine⟨v',?_,D,E⟩
  simp [Instr.index,asIntOf,run_underlying hu,c.1,c.2,mV hk,C]
theorem uW{es:List PD}{v:Value}(h:V S (.lst es) v):∃a c,v= .slice a es.length c∧es.length<=c:=by
 generalize e:PD.lst es=p at h
 cases h with
 |nil a c=>cases e;exact⟨a,c,rfl,Nat.zero_le _⟩
 |lst g b o c sz f i j hS hV=>cases e;exact⟨_,c,rfl,i⟩
 |bool _=>cases e
 |int _ _=>cases e
 |str _=>cases e
 |raw _ _=>cases e
 |agg _ _ _ _=>cases e
theorem V.elem{es:List PD}{v:Value}(h:V S (.lst es) v){i:Nat}{e:PD}(he:es[i]? =some e):
  ∃(b o c sz:Nat)(f:Nat->Nat->Value),v= .slice (some ⟨b,o,none⟩) es.length c∧es.length<=c∧(∀e∈es,e.cells.length=sz)∧
   (∀(i:Nat)e(j:Nat)x,es[i]? =some e->e.cells[j]? =some x->S ⟨b,o+i*sz+j,none⟩=some (f i j))∧
   (∀(i:Nat)e(j:Nat)x,es[i]? =some e->e.cells[j]? =some x->V S x (f i j)):=by
 generalize g:PD.lst es=p at h
 cases h with
 |nil a c=>cases g;simp at he
 |lst l b o c sz f m k hS hV=>cases g;exact⟨b,o,c,sz,f,rfl,m,k,hS,hV⟩
 |bool _=>cases g
 |int _ _=>cases g
 |str _=>cases g
 |raw _ _=>cases g
 |agg _ _ _ _=>cases g
theorem og{t e:TypeId}{k:Nat}(hu:P.underlying t=some (.slice e))(hk:szT P e=some k){a:Addr}{n:Nat}{c:Nat}{b:IntKind}{i:Int}(h:0<=i∧i<n):
  (Instr.indexAt t (.slice (some a) n c) (.int b i)).run P w= .ok (.pointer (some (a.add (i.toNat*k)))) w:=by
 simp [Instr.indexAt,asIntOf,run_underlying hu,h,mV hk]
theorem pE{e sz n:Nat}{v:Value}{xs:List Value}(h:oE w e sz v n xs)(b:0<n):∃g c,v= .slice (some ⟨g,0,none⟩) n c:=by
 rcases h.2 with⟨_,a⟩|⟨g,cap,cur,_,rfl,_⟩
 ·omega
 ·exact⟨g,cap,rfl⟩
theorem uh(h:Sim P X S loc s tm w){t:TypeId}{x i v:RV}{u:Ups}{r:List Nat}{vx vi:Value}(D:nX P t x i s.boxes=some ((v,u),r,true))(K:R S loc x vx)(hi:R S loc i vi):
  ∃v',(Instr.indexAt t vx vi).run P w= .ok v' w∧R S loc v v'∧u=[]:=by
 unfold nX at D
 rcases hu:P.underlying t with _|ty
 ·simp only [hu]at D;exact fE s.boxes D
 rw [hu]at D
 cases ty<;>first|exact fE s.boxes D|skip
 case slice e=>
  rcases i with p|_|_|_|_|_|_|_|_|_|_|_|_<;>first|exact fE s.boxes D|skip
  cases p<;>first|exact fE s.boxes D|skip
  rename_i ki n
  have e2:=hi.np
  subst e2
  rcases hk:szT P e with _|k
  ·simp only [hk]at D;exact fE s.boxes D
  simp only [hk]at D
  by_cases Q:∃cs,x= .plit cs
  ·obtain⟨cs,rfl⟩:=Q
   obtain⟨h1, -,E⟩:=nk D
   cases h1
   simp only [Bool.true_eq,Bool.and_eq_true]at E
   have G:=of_decide_eq_true E.1
   obtain rfl:=of_decide_eq_true E.2
   cases K with
   |plit _ b o c f hc hS hV=>
    have O:n.toNat<cs.length:=by omega
    have hg:cs[n.toNat]? =some (cs.getD n.toNat default):=by simp [List.getD,zc O]
    refine⟨_,og hu hk G,?_,rfl⟩
    rw [nO,Nat.mul_one]
    exact .pcp _ b _ _ (hS _ _ hg) (hV _ _ hg)
  rcases x with p|_|_|_|_|_|⟨id,ver⟩|_|_|_|_|_|_<;>first|exact fE s.boxes D|exact(Q ⟨_,rfl⟩).elim|skip
  ·cases p<;>first|exact fE s.boxes D|skip
   rename_i es
   obtain⟨h1, -,E⟩:=nk D
   cases h1
   simp only [Bool.true_eq,Bool.and_eq_true,beq_iff_eq]at E
   obtain⟨E,I⟩:=E
   have G:=of_decide_eq_true E
   have F:es[n.toNat]? =some (es.getD n.toNat default):=by
    rw [List.getD_eq_getElem?_getD,zc om];rfl
   obtain⟨b,o,c,sz,f,rfl,hc,B,hS,hV⟩:=K.rp.elem F
   have T:sz=k:=by rw [<-B _ (List.mem_of_getElem? F)];exact I
   subst T
   refine⟨_,og hu hk G,?_,rfl⟩
   rw [nO]
   exact .cptr _ b _ (fun j=>f n.toNat j) (fun j c hj=>hS _ _ j c F hj) (fun j c hj=>hV _ _ j c F hj)
  ·obtain⟨Y,r1,r2,h1,z,_⟩:=M.bind_some D
   obtain⟨N,_,_⟩:=M.get_some h1
   cases Y with
   |arr y H es=>
    by_cases l:ver=y∧e=H
    rotate_left
    ·simp only [l,if_false]at z;exact fE s.boxes z
    simp only [l,and_self,if_true]at z
    obtain⟨rfl,rfl⟩:=l
    obtain⟨E, -,I⟩:=nk z
    cases E
    have G:0<=n∧n<es.length:=of_decide_eq_true I.symm
    obtain⟨sz,xs,C,B,how,hf⟩:=h.qu N K
    obtain⟨g,c,rfl⟩:=pE (how.qN om) om
    rw [hk]at B
    cases B
    refine⟨_,og hu hk G,?_,rfl⟩
    rw [nO]
    refine .elt id ver n.toNat 0 _ _ rfl C fun y H L hdr he=>?_
    cases he
    exact⟨AB _,fun _=>⟨g,_,c,rfl,sm⟩⟩
   |var _=>exact fE s.boxes z
   |dead=>exact fE s.boxes z
   |map _ _ _=>exact fE s.boxes z
   |hole y H es j q rv=>
    by_cases l:ver=y∧e=H
    rotate_left
    ·simp only [l,if_false]at z;exact fE s.boxes z
    simp only [l,and_self,if_true]at z
    obtain⟨rfl,rfl⟩:=l
    obtain⟨E, -,I⟩:=nk z
    cases E
    have G:0<=n∧n<es.length:=of_decide_eq_true I.symm
    obtain⟨sz,xs,u,C,B,how,hf,J,ho,W,hr⟩:=h.yW N K
    obtain⟨g,c,rfl⟩:=pE (how.qN om) om
    rw [hk]at B
    cases B
    refine⟨_,og hu hk G,?_,rfl⟩
    rw [nO]
    refine .elt id ver n.toNat 0 _ _ rfl C fun y H L hdr he=>?_
    cases he
    exact⟨AB _,fun _=>⟨g,_,c,rfl,sm⟩⟩
   |nest y H e2 ess hh=>
    by_cases l:ver=y∧e=H
    rotate_left
    ·simp only [l,if_false]at z;exact fE s.boxes z
    simp only [l,and_self,if_true]at z
    obtain⟨rfl,rfl⟩:=l
    obtain⟨E, -,I⟩:=nk z
    cases E
    have G:0<=n∧n<ess.length:=of_decide_eq_true I.symm
    obtain⟨xs,bs,k2,C,B,a7,how,a5,a6,O⟩:=h.w7 N K
    obtain⟨g,c,rfl⟩:=pE (how.qN om) om
    rw [hk]at B
    cases B
    refine⟨_,og hu hk G,?_,rfl⟩
    rw [nO]
    refine .elt id ver n.toNat 0 _ _ rfl C fun y H L hdr he=>?_
    cases he
    exact⟨AB _,fun _=>⟨g,_,c,rfl,sm⟩⟩
  ·rename_i id ver lo J
   obtain⟨Y,r1,r2,h1,z,_⟩:=M.bind_some D
   obtain⟨N,_,_⟩:=M.get_some h1
   cases Y with
   |arr y H es=>
    by_cases l:ver=y∧e=H
    rotate_left
    ·simp only [l,if_false]at z;exact fE s.boxes z
    simp only [l,and_self,if_true]at z
    obtain⟨rfl,rfl⟩:=l
    obtain⟨E, -,I⟩:=nk z
    cases E
    have G:0<=n∧n<(J:Int)-lo∧J<=es.length:=of_decide_eq_true I.symm
    obtain⟨sz,xs,hdr,C,B,how,hf,ho,hd⟩:=h.tZ N K
    rw [hk]at B
    cases B
    rcases hd with⟨h5,_⟩|⟨g,m,c,rfl,h5,h6,rfl⟩
    ·omega
    refine⟨_,og hu hk (n:=J-lo) om,?_,rfl⟩
    rw [nO]
    refine .elt id ver (lo+n.toNat) 0 _ _ rfl C fun y H L hdr he=>?_
    cases he
    exact⟨AB _,fun _=>⟨g,_,c,rfl,by rw [Nat.add_mul];simp⟩⟩
   |var _=>exact fE s.boxes z
   |dead=>exact fE s.boxes z
   |map _ _ _=>exact fE s.boxes z
   |nest _ _ _ _ _=>exact fE s.boxes z
   |hole _ _ _ _ _ _=>exact fE s.boxes z
 case array len e=>
  rcases i with p|_|_|_|_|_|_|_|_|_|_|_|_<;>first|exact fE s.boxes D|skip
  cases p<;>first|exact fE s.boxes D|skip
  rename_i ki n
  have e2:=hi.np
  subst e2
  rcases hk:szT P e with _|k
  ·simp only [hk]at D;exact fE s.boxes D
  simp only [hk]at D
  obtain⟨_,r1,r2,h1,z,_⟩:=M.bind_some D
  obtain⟨-, -,E⟩:=M.mP h1
  have G:0<=n∧n<len:=of_decide_eq_true E.symm
  obtain⟨a,rfl,hr,W,_⟩:=rZ h z K
  refine⟨_,?_,hr,W⟩
  simp [Instr.indexAt,asIntOf,run_underlying hu,G,mV hk,Instr.sureAddr]
theorem Sim.yC(h:Sim P X S loc s tm w){id:Nat}{p q:TypeId}{es:List (PD×PD)}{v:Value}(j:s.boxes id=some (.map p q es))(n:R S loc (.ptr id 0) v):
  ∃b clock a,loc id=some (.map b)∧v= .map (some b)∧w.heap[b]? =some (.map a clock)∧a.size=es.length∧
   ∀(i:Nat)k x e,es[i]? =some (k,x)->a[i]? =some e->V S k e.key∧V S x e.val:=by
 obtain⟨L,g,f⟩:=h.boxes id _ j
 cases n with
 |ptr _ _ _ r _ c o=>
  rw [g]at c
  cases c
  cases f with
  |map _ _ _ b clock a hw m l=>exact⟨b,clock,a,g,(o b).2 .map,hw,m,l⟩
theorem yA(h:Sim P X S loc s tm w){t ty:TypeId}{x v:RV}{u:Ups}{r:List Nat}{O:Value}(y:vJ P t x s.boxes=some ((v,u),r,true))(D:R S loc x O):
  ∃v',(AN #[t] ty #[O]).run P w= .ok v' w∧R S loc v v'∧u=[]:=by
 unfold vJ at y
 rcases hu:P.underlying t with _|d
 ·simp only [hu]at y;exact fE s.boxes y
 rw [hu]at y
 cases d<;>first|exact fE s.boxes y|skip
 case map kt vt=>
  rcases x with p|_|_|_|_|_|_|⟨id,off⟩|_|_|_|_|_<;>first|exact fE s.boxes y|skip
  cases off<;>first|exact fE s.boxes y|skip
  obtain⟨G,L,N,h1,k,_⟩:=M.bind_some y
  obtain⟨E,_,_⟩:=M.get_some h1
  cases G<;>first|exact fE s.boxes k|skip
  rename_i b0 b1 es
  obtain⟨C, -, -⟩:=mQ k
  cases C
  obtain⟨b,clock,H,_,rfl,hw,K,_⟩:=h.yC E D
  refine⟨goInt H.size,?_,?_,rfl⟩
  ·simp [AN,run_underlying hu,MapKept.run_getObj_map hw,Result.andThen]
  ·rw [K];exact .d (.int _ _)
 case string=>
  rcases x with p|_|_|_|_|_|_|_|_|_|_|_|_<;>first|exact fE s.boxes y|skip
  cases p<;>first|exact fE s.boxes y|skip
  rename_i l
  obtain⟨h1, -, -⟩:=mQ y
  cases h1
  have T:=D.rC
  subst T
  exact⟨_,run_len_string w t ty _ hu,by rw [uX];exact .d (.int _ _),rfl⟩
 case slice e=>
  by_cases I:∃cs,x= .plit cs
  ·obtain⟨cs,rfl⟩:=I
   obtain⟨h1, -, -⟩:=mQ y
   cases h1
   cases D with
   |plit _ b o c f hc hS hV=>exact⟨goInt cs.length,by simp [AN,run_underlying hu],.d (.int _ _),rfl⟩
  rcases x with p|_|_|_|_|_|⟨id,ver⟩|_|_|_|_|_|_<;>first|exact fE s.boxes y|exact(I ⟨_,rfl⟩).elim|skip
  ·cases p<;>first|exact fE s.boxes y|skip
   rename_i es
   obtain⟨h1, -, -⟩:=mQ y
   cases h1
   obtain⟨a,c,rfl,_⟩:=uW D.rp
   exact⟨goInt es.length,by simp [AN,run_underlying hu],.d (.int _ _),rfl⟩
  ·obtain⟨h1, -, -⟩:=mQ y
   cases h1
   cases D with
   |cI=>exact⟨goInt 0,by simp [AN,run_underlying hu],.d (.int _ _),rfl⟩
  ·obtain⟨G,L,N,h1,k,_⟩:=M.bind_some y
   obtain⟨E,_,_⟩:=M.get_some h1
   cases G with
   |arr n J es=>
    by_cases i:ver=n
    rotate_left
    ·simp only [i,if_false]at k;exact fE s.boxes k
    simp only [i,if_true]at k
    subst i
    obtain⟨C, -, -⟩:=mQ k
    cases C
    obtain⟨sz,xs,B,F,how,hf⟩:=h.qu E D
    obtain⟨a,c,rfl,_⟩:=how.hdr
    exact⟨goInt es.length,by simp [AN,run_underlying hu],.d (.int _ _),rfl⟩
   |var _=>exact fE s.boxes k
   |dead=>exact fE s.boxes k
   |map _ _ _=>exact fE s.boxes k
   |hole n J es j q rv=>
    by_cases i:ver=n
    rotate_left
    ·simp only [i,if_false]at k;exact fE s.boxes k
    simp only [i,if_true]at k
    subst i
    obtain⟨C, -, -⟩:=mQ k
    cases C
    obtain⟨sz,xs,u',B,F,how,hf,z,ho,a9,hr⟩:=h.yW E D
    obtain⟨a,c,rfl,_⟩:=how.hdr
    exact⟨goInt es.length,by simp [AN,run_underlying hu],.d (.int _ _),rfl⟩
   |nest n J e2 ess hh=>
    by_cases i:ver=n
    rotate_left
    ·simp only [i,if_false]at k;exact fE s.boxes k
    simp only [i,if_true]at k
    subst i
    obtain⟨C, -, -⟩:=mQ k
    cases C
    obtain⟨xs,bs,k2,B,F,a8,how,a6,a7,a5⟩:=h.w7 E D
    obtain⟨a,c,rfl,_⟩:=how.hdr
    exact⟨goInt ess.length,by simp [AN,run_underlying hu],.d (.int _ _),rfl⟩
  ·rename_i id ver lo z
   obtain⟨G,L,N,h1,k,_⟩:=M.bind_some y
   obtain⟨E,_,_⟩:=M.get_some h1
   cases G with
   |arr n J es=>
    by_cases i:ver=n
    rotate_left
    ·simp only [i,if_false]at k;exact fE s.boxes k
    simp only [i,if_true]at k
    subst i
    obtain⟨C, -,W⟩:=nk k
    cases C
    have hn:lo<=z∧z<=es.length:=of_decide_eq_true W.symm
    obtain⟨sz,xs,hdr,B,F,how,hf,ho,Y⟩:=h.tZ E D
    have Q:((z:Int)-lo)=((z-lo:Nat):Int):=by omega
    rw [Q]
    rcases Y with⟨rfl,a,rfl⟩|⟨g,m,c,rfl,h5,h6,rfl⟩
    ·exact⟨goInt 0,by simp [AN,run_underlying hu],by rw [Nat.sub_self];exact .d (.int _ _),rfl⟩
    ·exact⟨goInt (z-lo:Nat),by simp [AN,run_underlying hu],.d (.int _ _),rfl⟩
   |var _=>exact fE s.boxes k
   |dead=>exact fE s.boxes k
   |map _ _ _=>exact fE s.boxes k
   |nest _ _ _ _ _=>exact fE s.boxes k
   |hole _ _ _ _ _ _=>exact fE s.boxes k
end
end Go.Dw
