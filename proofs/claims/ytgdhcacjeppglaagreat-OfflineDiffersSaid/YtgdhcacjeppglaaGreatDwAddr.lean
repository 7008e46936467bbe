
import Derived.Test.YtgdhcacjeppglaaGreatDwLoad
import Derived.MapKept
open Nat renaming add_assoc->AM, le_refl->AB
open Go.Builtin renaming len_->AN

namespace Go.Dw
section
variable {P:Program}{X:Ctx}{S:cp}{loc:cJ}{s:St}{tm:Array Value}{w:World}
theorem gP(h:Sim P X S loc s tm w){off:Nat}{x v:RV}{u:Ups}{r:List Nat}{F:Value}(hl:hZ off x s.boxes=some ((v,u),r,true))(B:R S loc x F):
  ∃a:Addr,F= .pointer (some a)∧R S loc v (.pointer (some (a.add off)))∧u=[]∧a.spot=none:=by
 cases x with
 |cptr cs=>
  replace hl:cQ (.cptr (cs.drop off)) s.boxes=some ((v,u),r,true):=hl
  obtain⟨h1, -, -⟩:=ch hl
  cases h1
  cases B with
  |cptr _ b o f hS hV=>
   refine⟨_,rfl,?_,rfl,rfl⟩
   rw [cV]
   refine .cptr _ b (o+off) (fun j=>f (off+j)) (fun j c z=>?_) (fun j c z=>?_)
   ·rw [List.getElem?_drop]at z
    have:=hS _ c z
    rwa [<-AM]at this
   ·rw [List.getElem?_drop]at z
    exact hV _ c z
 |ptr id o=>
  obtain⟨D,G,H,h1,l,_⟩:=M.bind_some hl
  obtain⟨hb,_,_⟩:=M.get_some h1
  cases D with
  |var cs=>
   obtain⟨y, -, -⟩:=ch l
   cases y
   obtain⟨b,ty,vs,t,rfl,hw,hlen,N⟩:=h.l8 hb B
   refine⟨_,rfl,?_,rfl,rfl⟩
   rw [cV]
   exact .ptr id (o+off) _ _ rfl t fun b'=>⟨(fun he=>by cases he;rfl),(fun he=>by cases he)⟩
  |arr _ _ _=>exact fE s.boxes l
  |dead=>exact fE s.boxes l
  |map _ _ _=>exact fE s.boxes l
  |nest _ _ _ _ _=>exact fE s.boxes l
  |mapn _ _ _ _ _=>exact fE s.boxes l
  |hole _ _ _ _ _ _=>exact fE s.boxes l
  |deep _ _ _ _ _ _ _=>exact fE s.boxes l
 |elt id ver i o=>
  obtain⟨D,G,H,h1,l,_⟩:=M.bind_some hl
  obtain⟨hb,_,_⟩:=M.get_some h1
  cases D with
  |arr m e es=>
   by_cases k:ver=m
   rotate_left
   ·simp only [k,if_false]at l;exact fE s.boxes l
   simp only [k,if_true]at l
   subst k
   obtain⟨y, -, -⟩:=ch l
   cases y
   obtain⟨sz,xs,g,n,c,t,rfl,hsz,how,hf⟩:=h.nk hb B
   refine⟨_,rfl,?_,rfl,rfl⟩
   rw [cV]
   refine .elt id ver i (o+off) _ _ rfl t fun m E C hdr he=>?_
   cases he
   exact⟨AB _,fun _=>⟨g,n,c,rfl,by rw [AM]⟩⟩
  |var _=>exact fE s.boxes l
  |dead=>exact fE s.boxes l
  |map _ _ _=>exact fE s.boxes l
  |nest _ _ _ _ _=>exact fE s.boxes l
  |mapn _ _ _ _ _=>exact fE s.boxes l
  |deep m e es q e2 ts J=>
   by_cases k:ver=m
   rotate_left
   ·simp only [k,if_false]at l;exact fE s.boxes l
   simp only [k,if_true]at l
   subst k
   obtain⟨y, -, -⟩:=ch l
   cases y
   obtain⟨sz,xs,bs,I,g,n,c,t,rfl,hd⟩:=h.lE hb B
   refine⟨_,rfl,?_,rfl,rfl⟩
   rw [cV]
   refine .elt id ver i (o+off) _ _ rfl t fun m E C hdr he=>?_
   cases he
   exact⟨AB _,fun _=>⟨g,n,c,rfl,by rw [AM]⟩⟩
  |hole m e es j q rv=>
   by_cases k:ver=m
   rotate_left
   ·simp only [k,if_false]at l;exact fE s.boxes l
   simp only [k,if_true]at l
   subst k
   obtain⟨y, -, -⟩:=ch l
   cases y
   obtain⟨sz,xs,u,g,n,c,t,rfl,hsz,how,hf,K,ho,hu,L⟩:=h.lJ hb B
   refine⟨_,rfl,?_,rfl,rfl⟩
   rw [cV]
   refine .elt id ver i (o+off) _ _ rfl t fun m E C hdr he=>?_
   cases he
   exact⟨AB _,fun _=>⟨g,n,c,rfl,by rw [AM]⟩⟩
 |d p=>exact fE s.boxes hl
 |undef=>exact fE s.boxes hl
 |junk=>exact fE s.boxes hl
 |cL=>exact fE s.boxes hl
 |agg cs=>exact fE s.boxes hl
 |tup cs=>exact fE s.boxes hl
 |ref a b=>exact fE s.boxes hl
 |view a b c d=>exact fE s.boxes hl
 |clo a b=>exact fE s.boxes hl
 |fview _ _ _=>exact fE s.boxes hl
 |err _=>exact fE s.boxes hl
 |dfull _=>exact fE s.boxes hl
 |ifc _ _=>exact fE s.boxes hl
 |plit _=>exact fE s.boxes hl
 |rlit _=>exact fE s.boxes hl
 |pcp _=>exact fE s.boxes hl
 |bnd _ _=>exact fE s.boxes hl
 |rfn _ _ _=>exact fE s.boxes hl
theorem hX{t:TypeId}{f off:Nat}{b:TypeId}(h:fR P t f=some (off,b)):∃a x,P.underlying t=some (.struct a)∧a[f]? =some x∧x.offset=off∧x.type=b:=by
 unfold fR at h
 split at h
 ·rename_i a hu
  split at h
  ·rename_i x c
   simp only [Option.some.injEq,Prod.mk.injEq]at h
   exact⟨a,x,hu,c,h.1,h.2⟩
  ·cases h
 ·cases h
theorem jd(h:Sim P X S loc s tm w){t:TypeId}{f:Nat}{x v:RV}{u:Ups}{r:List Nat}{b:Value}(hl:dX P t x f s.boxes=some ((v,u),r,true))(i:R S loc x b):
  ∃v',(Instr.fieldAt t b f).run P w= .ok v' w∧R S loc v v'∧u=[]:=by
 unfold dX at hl
 rcases hf:fR P t f with _|⟨off,c⟩
 ·simp only [hf]at hl;exact fE s.boxes hl
 simp only [hf]at hl
 rcases hk:szT P c with _|_|k
 ·simp only [hk]at hl;exact fE s.boxes hl
 ·simp only [hk]at hl;exact fE s.boxes hl
 simp only [hk]at hl
 obtain⟨a,rfl,g,hu,_⟩:=gP h hl i
 obtain⟨l,j,h1,e,rfl,rfl⟩:=hX hf
 refine⟨_,?_,g,hu⟩
 simp [Instr.fieldAt,run_underlying h1,e,Instr.sureAddr,fieldPlace,ct hk]
theorem lF{t:TypeId}{f:Nat}{x v:RV}{b:cI}{u:Ups}{r:List Nat}{a:Value}(hl:ij P t x f b=some ((v,u),r,true))(k:R S loc x a):
  ∃v',(Instr.field t a f).run P w= .ok v' w∧R S loc v v'∧u=[]:=by
 unfold ij at hl
 rcases hf:fR P t f with _|⟨off,n⟩
 ·simp only [hf]at hl;exact fE b hl
 rcases hc:fP x with _|cs
 ·simp only [hf,hc]at hl;exact fE b hl
 simp only [hf,hc]at hl
 obtain⟨vs,rfl,hlen,j⟩:=gH hc k
 obtain⟨m,l,h1,c,rfl,rfl⟩:=hX hf
 obtain⟨v',e,g,i⟩:=jK (P:=P) (w:=w) hl hlen j
 exact⟨v',by simp [Instr.field,run_underlying h1,c,asAgg,e],g,i⟩
theorem cW{t e:TypeId}(h:dm P t=some e):P.underlying t=some (.slice e):=by
 unfold dm at h
 split at h<;>simp_all
theorem lL{t:TypeId}{x i v:RV}{b:cI}{u:Ups}{r:List Nat}{q o:Value}(hl:im P t x i b=some ((v,u),r,true))(j:R S loc x q)(g:R S loc i o):
  ∃v',(Instr.index t q o).run P w= .ok v' w∧R S loc v v'∧u=[]:=by
 unfold im at hl
 rcases hu:P.underlying t with _|ty
 ·simp only [hu]at hl;exact fE b hl
 rw [hu]at hl
 cases ty<;>first|exact fE b hl|skip
 ·simp only [jh]at hl
  rcases x with p|_|_|_|_|_|_|_|_|_|_|_|_<;>first|exact fE b hl|skip
  cases p<;>first|exact fE b hl|skip
  rename_i l
  rcases i with p|_|_|_|_|_|_|_|_|_|_|_|_<;>first|exact fE b hl|skip
  cases p<;>first|exact fE b hl|skip
  rename_i k n
  obtain⟨h1, -,c⟩:=cy hl
  cases h1
  have a:0<=n∧n<l.length:=of_decide_eq_true c.symm
  have y:=j.gy
  have e2:=g.cC
  subst y;subst e2
  refine⟨_,?_,.d (.int _ _),rfl⟩
  rw [run_index_string w t _ k n hu,dif_pos (by rw [jR];exact a)]
  have f:n.toNat<l.length:=by omega
  simp [f]
  rfl
 ·rename_i len e
  simp only [jf]at hl
  rcases hc:fP x with _|cs
  ·simp only [hc]at hl;exact fE b hl
  rw [hc]at hl
  rcases i with p|_|_|_|_|_|_|_|_|_|_|_|_<;>first|exact fE b hl|skip
  cases p<;>first|exact fE b hl|skip
  rename_i k n
  rcases hk:szT P e with _|m
  ·simp only [hk]at hl;exact fE b hl
  simp only [hk]at hl
  obtain⟨⟨⟩,F,G,h1,z,_⟩:=M.bind_some hl
  obtain⟨-, -,c⟩:=M.cg h1
  have a:0<=n∧n<len:=of_decide_eq_true c.symm
  have e2:=g.cC
  subst e2
  obtain⟨vs,rfl,hlen,E⟩:=gH hc j
  obtain⟨v',B,C,D⟩:=jK (P:=P) (w:=w) z hlen E
  refine⟨v',?_,C,D⟩
  simp [Instr.index,asIntOf,run_underlying hu,a.1,a.2,ct hk,B]
theorem iP{es:List PD}{v:Value}(h:V S (.lst es) v):∃a c,v= .slice a es.length c∧es.length<=c:=by
 generalize e:PD.lst es=p at h
 cases h with
 |nil a c=>cases e;exact⟨a,c,rfl,Nat.zero_le _⟩
 |lst g b o c sz f hc hsz hS hV=>cases e;exact⟨_,c,rfl,hc⟩
 |bool _=>cases e
 |int _ _=>cases e
 |str _=>cases e
 |raw _ _=>cases e
 |agg _ _ _ _=>cases e
theorem V.elem{es:List PD}{v:Value}(h:V S (.lst es) v){i:Nat}{e:PD}(he:es[i]? =some e):
  ∃(b o c sz:Nat)(f:Nat->Nat->Value),v= .slice (some ⟨b,o,none⟩) es.length c∧es.length<=c∧(∀e∈es,e.cells.length=sz)∧
   (∀(i:Nat)e(j:Nat)x,es[i]? =some e->e.cells[j]? =some x->S ⟨b,o+i*sz+j,none⟩=some (f i j))∧
   (∀(i:Nat)e(j:Nat)x,es[i]? =some e->e.cells[j]? =some x->V S x (f i j)):=by
 generalize g:PD.lst es=p at h
 cases h with
 |nil a c=>cases g;simp at he
 |lst k b o c sz f hc hsz hS hV=>cases g;exact⟨b,o,c,sz,f,rfl,hc,hsz,hS,hV⟩
 |bool _=>cases g
 |int _ _=>cases g
 |str _=>cases g
 |raw _ _=>cases g
 |agg _ _ _ _=>cases g
theorem dh{t e:TypeId}{k:Nat}(hu:P.underlying t=some (.slice e))(hk:szT P e=some k){a:Addr}{n:Nat}{c:Nat}{b:IntKind}{i:Int}(h:0<=i∧i<n):
  (Instr.indexAt t (.slice (some a) n c) (.int b i)).run P w= .ok (.pointer (some (a.add (i.toNat*k)))) w:=by
 simp [Instr.indexAt,asIntOf,run_underlying hu,h,ct hk]
theorem ec{e sz n:Nat}{v:Value}{xs:List Value}(h:dJ w e sz v n xs)(b:0<n):∃g c,v= .slice (some ⟨g,0,none⟩) n c:=by
 rcases h.2 with⟨_,a⟩|⟨g,cap,cur,_,rfl,_⟩
 ·omega
 ·exact⟨g,cap,rfl⟩
theorem jg(h:Sim P X S loc s tm w){t:TypeId}{x i v:RV}{u:Ups}{r:List Nat}{vx vi:Value}(hl:dn P t x i s.boxes=some ((v,u),r,true))(J:R S loc x vx)(Y:R S loc i vi):
  ∃v',(Instr.indexAt t vx vi).run P w= .ok v' w∧R S loc v v'∧u=[]:=by
 unfold dn at hl
 rcases hu:P.underlying t with _|ty
 ·simp only [hu]at hl;exact fE s.boxes hl
 rw [hu]at hl
 cases ty<;>first|exact fE s.boxes hl|skip
 case slice e=>
  rcases i with p|_|_|_|_|_|_|_|_|_|_|_|_<;>first|exact fE s.boxes hl|skip
  cases p<;>first|exact fE s.boxes hl|skip
  rename_i ki n
  have e2:=Y.cC
  subst e2
  rcases hk:szT P e with _|k
  ·simp only [hk]at hl;exact fE s.boxes hl
  simp only [hk]at hl
  by_cases L:∃cs,x= .plit cs
  ·obtain⟨cs,rfl⟩:=L
   obtain⟨h1, -,C⟩:=cy hl
   cases h1
   simp only [Bool.true_eq,Bool.and_eq_true]at C
   have F:=of_decide_eq_true C.1
   obtain rfl:=of_decide_eq_true C.2
   cases J with
   |plit _ b o c f hc hS hV=>
    have K:n.toNat<cs.length:=by omega
    have W:cs[n.toNat]? =some (cs.getD n.toNat default):=by simp [List.getD,zc K]
    refine⟨_,dh hu hk F,?_,rfl⟩
    rw [cV,Nat.mul_one]
    exact .pcp _ b _ _ (hS _ _ W) (hV _ _ W)
  rcases x with p|_|_|_|_|_|⟨id,ver⟩|_|_|_|_|_|_<;>first|exact fE s.boxes hl|exact(L ⟨_,rfl⟩).elim|skip
  ·cases p<;>first|exact fE s.boxes hl|skip
   rename_i es
   obtain⟨h1, -,C⟩:=cy hl
   cases h1
   simp only [Bool.true_eq,Bool.and_eq_true,beq_iff_eq]at C
   obtain⟨C,G⟩:=C
   have F:=of_decide_eq_true C
   have E:es[n.toNat]? =some (es.getD n.toNat default):=by
    rw [List.getD_eq_getElem?_getD,zc om];rfl
   obtain⟨b,o,c,sz,f,rfl,hc,hsz,hS,hV⟩:=J.gn.elem E
   have N:sz=k:=by rw [<-hsz _ (List.mem_of_getElem? E)];exact G
   subst N
   refine⟨_,dh hu hk F,?_,rfl⟩
   rw [cV]
   exact .cptr _ b _ (fun j=>f n.toNat j) (fun j c T=>hS _ _ j c E T) (fun j c T=>hV _ _ j c E T)
  ·obtain⟨Q,r1,r2,h1,z,_⟩:=M.bind_some hl
   obtain⟨hb,_,_⟩:=M.get_some h1
   cases Q with
   |arr y D es=>
    by_cases l:ver=y∧e=D
    rotate_left
    ·simp only [l,if_false]at z;exact fE s.boxes z
    simp only [l,and_self,if_true]at z
    obtain⟨rfl,rfl⟩:=l
    obtain⟨C, -,G⟩:=cy z
    cases C
    have F:0<=n∧n<es.length:=of_decide_eq_true G.symm
    obtain⟨sz,xs,B,hsz,how,hf⟩:=h.fm hb J
    obtain⟨g,c,rfl⟩:=ec (how.fw om) om
    rw [hk]at hsz
    cases hsz
    refine⟨_,dh hu hk F,?_,rfl⟩
    rw [cV]
    refine .elt id ver n.toNat 0 _ _ rfl B fun y D I hdr he=>?_
    cases he
    exact⟨AB _,fun _=>⟨g,_,c,rfl,sm⟩⟩
   |var _=>exact fE s.boxes z
   |dead=>exact fE s.boxes z
   |map _ _ _=>exact fE s.boxes z
   |mapn _ _ _ _ _=>exact fE s.boxes z
   |hole y D es j q rv=>
    by_cases l:ver=y∧e=D
    rotate_left
    ·simp only [l,if_false]at z;exact fE s.boxes z
    simp only [l,and_self,if_true]at z
    obtain⟨rfl,rfl⟩:=l
    obtain⟨C, -,G⟩:=cy z
    cases C
    have F:0<=n∧n<es.length:=of_decide_eq_true G.symm
    obtain⟨sz,xs,u,B,hsz,how,hf,H,ho,O,hr⟩:=h.nT hb J
    obtain⟨g,c,rfl⟩:=ec (how.fw om) om
    rw [hk]at hsz
    cases hsz
    refine⟨_,dh hu hk F,?_,rfl⟩
    rw [cV]
    refine .elt id ver n.toNat 0 _ _ rfl B fun y D I hdr he=>?_
    cases he
    exact⟨AB _,fun _=>⟨g,_,c,rfl,sm⟩⟩
   |deep y D es q e2 ts hh=>
    by_cases l:ver=y∧e=D
    rotate_left
    ·simp only [l,if_false]at z;exact fE s.boxes z
    simp only [l,and_self,if_true]at z
    obtain⟨rfl,rfl⟩:=l
    obtain⟨C, -,G⟩:=cy z
    cases C
    have F:0<=n∧n<es.length:=of_decide_eq_true G.symm
    obtain⟨sz,xs,bs,bl,B,hd⟩:=h.lD hb J
    obtain⟨g,c,rfl⟩:=ec (hd.how.fw om) om
    have hsz:=hd.hsz
    rw [hk]at hsz
    cases hsz
    refine⟨_,dh hu hk F,?_,rfl⟩
    rw [cV]
    refine .elt id ver n.toNat 0 _ _ rfl B fun y D I hdr he=>?_
    cases he
    exact⟨AB _,fun _=>⟨g,_,c,rfl,sm⟩⟩
   |nest y D e2 ess hh=>
    by_cases l:ver=y∧e=D
    rotate_left
    ·simp only [l,if_false]at z;exact fE s.boxes z
    simp only [l,and_self,if_true]at z
    obtain⟨rfl,rfl⟩:=l
    obtain⟨C, -,G⟩:=cy z
    cases C
    have F:0<=n∧n<ess.length:=of_decide_eq_true G.symm
    obtain⟨xs,bs,k2,B,hsz,a2,how,a0,a1,K⟩:=h.lT hb J
    obtain⟨g,c,rfl⟩:=ec (how.fw om) om
    rw [hk]at hsz
    cases hsz
    refine⟨_,dh hu hk F,?_,rfl⟩
    rw [cV]
    refine .elt id ver n.toNat 0 _ _ rfl B fun y D I hdr he=>?_
    cases he
    exact⟨AB _,fun _=>⟨g,_,c,rfl,sm⟩⟩
  ·rename_i id ver U H
   obtain⟨Q,r1,r2,h1,z,_⟩:=M.bind_some hl
   obtain⟨hb,_,_⟩:=M.get_some h1
   cases Q with
   |arr y D es=>
    by_cases l:ver=y∧e=D
    rotate_left
    ·simp only [l,if_false]at z;exact fE s.boxes z
    simp only [l,and_self,if_true]at z
    obtain⟨rfl,rfl⟩:=l
    obtain⟨C, -,G⟩:=cy z
    cases C
    have F:0<=n∧n<(H:Int)-U∧H<=es.length:=of_decide_eq_true G.symm
    obtain⟨sz,xs,hdr,B,hsz,how,hf,ho,hd⟩:=h.iW hb J
    rw [hk]at hsz
    cases hsz
    rcases hd with⟨h5,_⟩|⟨g,m,c,rfl,h5,h6,rfl⟩
    ·omega
    refine⟨_,dh hu hk (n:=H-U) om,?_,rfl⟩
    rw [cV]
    refine .elt id ver (U+n.toNat) 0 _ _ rfl B fun y D I hdr he=>?_
    cases he
    exact⟨AB _,fun _=>⟨g,_,c,rfl,by rw [Nat.add_mul];simp⟩⟩
   |var _=>exact fE s.boxes z
   |dead=>exact fE s.boxes z
   |map _ _ _=>exact fE s.boxes z
   |nest _ _ _ _ _=>exact fE s.boxes z
   |mapn _ _ _ _ _=>exact fE s.boxes z
   |hole _ _ _ _ _ _=>exact fE s.boxes z
   |deep _ _ _ _ _ _ _=>exact fE s.boxes z
 case array len e=>
  rcases i with p|_|_|_|_|_|_|_|_|_|_|_|_<;>first|exact fE s.boxes hl|skip
  cases p<;>first|exact fE s.boxes hl|skip
  rename_i ki n
  have e2:=Y.cC
  subst e2
  rcases hk:szT P e with _|k
  ·simp only [hk]at hl;exact fE s.boxes hl
  simp only [hk]at hl
  obtain⟨_,r1,r2,h1,z,_⟩:=M.bind_some hl
  obtain⟨-, -,C⟩:=M.cg h1
  have F:0<=n∧n<len:=of_decide_eq_true C.symm
  obtain⟨a,rfl,hr,O,_⟩:=gP h z J
  refine⟨_,?_,hr,O⟩
  simp [Instr.indexAt,asIntOf,run_underlying hu,F,ct hk,Instr.sureAddr]
theorem Sim.nB(h:Sim P X S loc s tm w){id:Nat}{m n:TypeId}{es:List (PD×PD)}{v:Value}(hb:s.boxes id=some (.map m n es))(j:R S loc (.ptr id 0) v):
  ∃b clock a,loc id=some (.map b)∧v= .map (some b)∧w.heap[b]? =some (.map a clock)∧a.size=es.length∧
   ∀(i:Nat)k x e,es[i]? =some (k,x)->a[i]? =some e->V S k e.key∧V S x e.val:=by
 obtain⟨L,g,f⟩:=h.boxes id _ hb
 cases j with
 |ptr _ _ _ o _ c l=>
  rw [g]at c
  cases c
  cases f with
  |map _ _ _ b clock a hw hl hc=>exact⟨b,clock,a,g,(l b).2 .map,hw,hl,hc⟩
theorem nz(h:Sim P X S loc s tm w){t ty:TypeId}{x v:RV}{u:Ups}{r:List Nat}{T:Value}(hl:lenD P t x s.boxes=some ((v,u),r,true))(E:R S loc x T):
  ∃v',(AN #[t] ty #[T]).run P w= .ok v' w∧R S loc v v'∧u=[]:=by
 unfold lenD at hl
 rcases hu:P.underlying t with _|d
 ·simp only [hu]at hl;exact fE s.boxes hl
 rw [hu]at hl
 cases d<;>first|exact fE s.boxes hl|skip
 case map kt vt=>
  rcases x with p|_|_|_|_|_|_|⟨id,off⟩|_|_|_|_|_<;>first|exact fE s.boxes hl|skip
  cases off<;>first|exact fE s.boxes hl|skip
  obtain⟨F,O,Q,h1,y,_⟩:=M.bind_some hl
  obtain⟨hb,_,_⟩:=M.get_some h1
  cases F<;>first|exact fE s.boxes y|skip
  rename_i a5 a6 es
  obtain⟨D, -, -⟩:=ch y
  cases D
  obtain⟨b,clock,G,_,rfl,hw,L,_⟩:=h.nB hb E
  refine⟨goInt G.size,?_,?_,rfl⟩
  ·simp [AN,run_underlying hu,MapKept.run_getObj_map hw,Result.andThen]
  ·rw [L];exact .d (.int _ _)
 case string=>
  rcases x with p|_|_|_|_|_|_|_|_|_|_|_|_<;>first|exact fE s.boxes hl|skip
  cases p<;>first|exact fE s.boxes hl|skip
  rename_i l
  obtain⟨h1, -, -⟩:=ch hl
  cases h1
  have W:=E.gy
  subst W
  exact⟨_,run_len_string w t ty _ hu,by rw [jR];exact .d (.int _ _),rfl⟩
 case slice e=>
  by_cases H:∃cs,x= .plit cs
  ·obtain⟨cs,rfl⟩:=H
   obtain⟨h1, -, -⟩:=ch hl
   cases h1
   cases E with
   |plit _ b o c f hc hS hV=>exact⟨goInt cs.length,by simp [AN,run_underlying hu],.d (.int _ _),rfl⟩
  by_cases I:∃i q n,x= .rfn i q n
  ·obtain⟨i,q,n,rfl⟩:=I
   obtain⟨h1, -, -⟩:=ch hl
   cases h1
   cases E with
   |rfn _ _ _ a c N=>exact⟨goInt n,by simp [AN,run_underlying hu],.d (.int _ _),rfl⟩
  rcases x with p|_|_|_|_|_|⟨id,ver⟩|_|_|_|_|_|_<;>first|exact fE s.boxes hl|exact(H ⟨_,rfl⟩).elim|exact(I ⟨_,_,_,rfl⟩).elim|skip
  ·cases p<;>first|exact fE s.boxes hl|skip
   rename_i es
   obtain⟨h1, -, -⟩:=ch hl
   cases h1
   obtain⟨a,c,rfl,_⟩:=iP E.gn
   exact⟨goInt es.length,by simp [AN,run_underlying hu],.d (.int _ _),rfl⟩
  ·obtain⟨h1, -, -⟩:=ch hl
   cases h1
   cases E with
   |cL=>exact⟨goInt 0,by simp [AN,run_underlying hu],.d (.int _ _),rfl⟩
  ·obtain⟨F,O,Q,h1,y,_⟩:=M.bind_some hl
   obtain⟨hb,_,_⟩:=M.get_some h1
   cases F with
   |arr z J es=>
    by_cases k:ver=z
    rotate_left
    ·simp only [k,if_false]at y;exact fE s.boxes y
    simp only [k,if_true]at y
    subst k
    obtain⟨D, -, -⟩:=ch y
    cases D
    obtain⟨sz,xs,B,hsz,how,hf⟩:=h.fm hb E
    obtain⟨a,c,rfl,_⟩:=how.hdr
    exact⟨goInt es.length,by simp [AN,run_underlying hu],.d (.int _ _),rfl⟩
   |var _=>exact fE s.boxes y
   |dead=>exact fE s.boxes y
   |map _ _ _=>exact fE s.boxes y
   |mapn _ _ _ _ _=>exact fE s.boxes y
   |hole z J es j q rv=>
    by_cases k:ver=z
    rotate_left
    ·simp only [k,if_false]at y;exact fE s.boxes y
    simp only [k,if_true]at y
    subst k
    obtain⟨D, -, -⟩:=ch y
    cases D
    obtain⟨sz,xs,u',B,hsz,how,hf,C,ho,a4,hr⟩:=h.nT hb E
    obtain⟨a,c,rfl,_⟩:=how.hdr
    exact⟨goInt es.length,by simp [AN,run_underlying hu],.d (.int _ _),rfl⟩
   |deep z J es q e2 ts N=>
    by_cases k:ver=z
    rotate_left
    ·simp only [k,if_false]at y;exact fE s.boxes y
    simp only [k,if_true]at y
    subst k
    obtain⟨D, -, -⟩:=ch y
    cases D
    obtain⟨sz,xs,bs,bl,B,hd⟩:=h.lD hb E
    obtain⟨a,c,rfl,_⟩:=hd.how.hdr
    exact⟨goInt es.length,by simp [AN,run_underlying hu],.d (.int _ _),rfl⟩
   |nest z J e2 ess N=>
    by_cases k:ver=z
    rotate_left
    ·simp only [k,if_false]at y;exact fE s.boxes y
    simp only [k,if_true]at y
    subst k
    obtain⟨D, -, -⟩:=ch y
    cases D
    obtain⟨xs,bs,k2,B,hsz,a3,how,a1,a2,a0⟩:=h.lT hb E
    obtain⟨a,c,rfl,_⟩:=how.hdr
    exact⟨goInt ess.length,by simp [AN,run_underlying hu],.d (.int _ _),rfl⟩
  ·rename_i id ver K C
   obtain⟨F,O,Q,h1,y,_⟩:=M.bind_some hl
   obtain⟨hb,_,_⟩:=M.get_some h1
   cases F with
   |arr z J es=>
    by_cases k:ver=z
    rotate_left
    ·simp only [k,if_false]at y;exact fE s.boxes y
    simp only [k,if_true]at y
    subst k
    obtain⟨D, -,Y⟩:=cy y
    cases D
    have hn:K<=C∧C<=es.length:=of_decide_eq_true Y.symm
    obtain⟨sz,xs,hdr,B,hsz,how,hf,ho,hd⟩:=h.iW hb E
    have U:((C:Int)-K)=((C-K:Nat):Int):=by omega
    rw [U]
    rcases hd with⟨rfl,a,rfl⟩|⟨g,m,c,rfl,h5,h6,rfl⟩
    ·exact⟨goInt 0,by simp [AN,run_underlying hu],by rw [Nat.sub_self];exact .d (.int _ _),rfl⟩
    ·exact⟨goInt (C-K:Nat),by simp [AN,run_underlying hu],.d (.int _ _),rfl⟩
   |var _=>exact fE s.boxes y
   |dead=>exact fE s.boxes y
   |map _ _ _=>exact fE s.boxes y
   |nest _ _ _ _ _=>exact fE s.boxes y
   |mapn _ _ _ _ _=>exact fE s.boxes y
   |hole _ _ _ _ _ _=>exact fE s.boxes y
   |deep _ _ _ _ _ _ _=>exact fE s.boxes y
end
end Go.Dw
