
import Derived.Test.YtfmoipelhfkdkaaGreatDoorDwLoad
import Derived.MapKept
open Nat renaming add_assoc->DK, le_refl->DA
open Go.Builtin renaming len_->DL

namespace Go.Dw
section
variable {P:Program}{X:Ctx}{S:rC}{loc:sf}{s:St}{tm:Array Value}{w:World}
theorem w8(h:Sim P X S loc s tm w){off:Nat}{x v:RV}{u:Ups}{r:List Nat}{L:Value}(hl:xD off x s.boxes=some ((v,u),r,true))(H:R S loc x L):
  ∃a:Addr,L= .pointer (some a)∧R S loc v (.pointer (some (a.add off)))∧u=[]∧a.spot=none:=by
 cases x with
 |cptr cs=>
  replace hl:sn (.cptr (cs.drop off)) s.boxes=some ((v,u),r,true):=hl
  obtain⟨h1, -, -⟩:=rp hl
  cases h1
  cases H with
  |cptr _ b o f hS hV=>
   refine⟨_,rfl,?_,rfl,rfl⟩
   rw [sJ]
   refine .cptr _ b (o+off) (fun j=>f (off+j)) (fun j c F=>?_) (fun j c F=>?_)
   ·rw [List.getElem?_drop]at F
    have:=hS _ c F
    rwa [<-DK]at this
   ·rw [List.getElem?_drop]at F
    exact hV _ c F
 |ptr id o=>
  obtain⟨I,O,Q,h1,B,_⟩:=M.bind_some hl
  obtain⟨G,_,_⟩:=M.get_some h1
  cases I with
  |var cs=>
   obtain⟨E, -, -⟩:=rp B
   cases E
   obtain⟨b,ty,vs,C,rfl,hw,hlen,U⟩:=h.Bt G H
   refine⟨_,rfl,?_,rfl,rfl⟩
   rw [sJ]
   exact .ptr id (o+off) _ _ rfl C fun b'=>⟨(fun he=>by cases he;rfl),(fun he=>by cases he)⟩
  |arr _ _ _=>exact fE s.boxes B
  |dead=>exact fE s.boxes B
  |map _ _ _=>exact fE s.boxes B
  |nest _ _ _ _ _=>exact fE s.boxes B
  |hole _ _ _ _ _ _=>exact fE s.boxes B
 |elt id ver i o=>
  obtain⟨I,O,Q,h1,B,_⟩:=M.bind_some hl
  obtain⟨G,_,_⟩:=M.get_some h1
  cases I with
  |arr D e es=>
   by_cases k:ver=D
   rotate_left
   ·simp only [k,if_false]at B;exact fE s.boxes B
   simp only [k,if_true]at B
   subst k
   obtain⟨E, -, -⟩:=rp B
   cases E
   obtain⟨sz,xs,g,n,c,C,rfl,J,how,hf⟩:=h.Cm G H
   refine⟨_,rfl,?_,rfl,rfl⟩
   rw [sJ]
   refine .elt id ver i (o+off) _ _ rfl C fun D N K hdr he=>?_
   cases he
   exact⟨DA _,fun _=>⟨g,n,c,rfl,by rw [DK]⟩⟩
  |var _=>exact fE s.boxes B
  |dead=>exact fE s.boxes B
  |map _ _ _=>exact fE s.boxes B
  |nest _ _ _ _ _=>exact fE s.boxes B
  |hole D e es j q rv=>
   by_cases k:ver=D
   rotate_left
   ·simp only [k,if_false]at B;exact fE s.boxes B
   simp only [k,if_true]at B
   subst k
   obtain⟨E, -, -⟩:=rp B
   cases E
   obtain⟨sz,xs,u,g,n,c,C,rfl,J,how,hf,hi,ho,hu,T⟩:=h.Bd G H
   refine⟨_,rfl,?_,rfl,rfl⟩
   rw [sJ]
   refine .elt id ver i (o+off) _ _ rfl C fun D N K hdr he=>?_
   cases he
   exact⟨DA _,fun _=>⟨g,n,c,rfl,by rw [DK]⟩⟩
 |d p=>exact fE s.boxes hl
 |undef=>exact fE s.boxes hl
 |junk=>exact fE s.boxes hl
 |pY=>exact fE s.boxes hl
 |agg cs=>exact fE s.boxes hl
 |tup cs=>exact fE s.boxes hl
 |ref a b=>exact fE s.boxes hl
 |view a b c d=>exact fE s.boxes hl
 |clo a b=>exact fE s.boxes hl
 |fview _ _ _=>exact fE s.boxes hl
 |err _=>exact fE s.boxes hl
 |dfull _=>exact fE s.boxes hl
 |ifc _ _=>exact fE s.boxes hl
 |plit _=>exact fE s.boxes hl
 |pcp _=>exact fE s.boxes hl
theorem xC{t:TypeId}{f off:Nat}{j:TypeId}(h:vX P t f=some (off,j)):∃g x,P.underlying t=some (.struct g)∧g[f]? =some x∧x.offset=off∧x.type=j:=by
 unfold vX at h
 split at h
 ·rename_i g hu
  split at h
  ·rename_i x k
   simp only [Option.some.injEq,Prod.mk.injEq]at h
   exact⟨g,x,hu,k,h.1,h.2⟩
  ·cases h
 ·cases h
theorem yz(h:Sim P X S loc s tm w){t:TypeId}{f:Nat}{x v:RV}{u:Ups}{r:List Nat}{g:Value}(hl:ud P t x f s.boxes=some ((v,u),r,true))(C:R S loc x g):
  ∃v',(Instr.fieldAt t g f).run P w= .ok v' w∧R S loc v v'∧u=[]:=by
 unfold ud at hl
 rcases hf:vX P t f with _|⟨off,j⟩
 ·simp only [hf]at hl;exact fE s.boxes hl
 simp only [hf]at hl
 rcases hk:szT P j with _|_|k
 ·simp only [hk]at hl;exact fE s.boxes hl
 ·simp only [hk]at hl;exact fE s.boxes hl
 simp only [hk]at hl
 obtain⟨a,rfl,B,hu,_⟩:=w8 h hl C
 obtain⟨E,D,h1,q,rfl,rfl⟩:=xC hf
 refine⟨_,?_,B,hu⟩
 simp [Instr.fieldAt,run_underlying h1,q,Instr.sureAddr,fieldPlace,rD hk]
theorem A9{t:TypeId}{f:Nat}{x v:RV}{b:rY}{u:Ups}{r:List Nat}{g:Value}(hl:xJ P t x f b=some ((v,u),r,true))(D:R S loc x g):
  ∃v',(Instr.field t g f).run P w= .ok v' w∧R S loc v v'∧u=[]:=by
 unfold xJ at hl
 rcases hf:vX P t f with _|⟨off,G⟩
 ·simp only [hf]at hl;exact fE b hl
 rcases hc:vS x with _|cs
 ·simp only [hf,hc]at hl;exact fE b hl
 simp only [hf,hc]at hl
 obtain⟨vs,rfl,hlen,C⟩:=wT hc D
 obtain⟨F,E,h1,j,rfl,rfl⟩:=xC hf
 obtain⟨v',k,q,B⟩:=zk (P:=P) (w:=w) hl hlen C
 exact⟨v',by simp [Instr.field,run_underlying h1,j,asAgg,k],q,B⟩
theorem sQ{t e:TypeId}(h:ss P t=some e):P.underlying t=some (.slice e):=by
 unfold ss at h
 split at h<;>simp_all
theorem Bf{t:TypeId}{x i v:RV}{b:rY}{u:Ups}{r:List Nat}{C B:Value}(hl:w5 P t x i b=some ((v,u),r,true))(q:R S loc x C)(hi:R S loc i B):
  ∃v',(Instr.index t C B).run P w= .ok v' w∧R S loc v v'∧u=[]:=by
 unfold w5 at hl
 rcases hu:P.underlying t with _|ty
 ·simp only [hu]at hl;exact fE b hl
 rw [hu]at hl
 cases ty<;>first|exact fE b hl|skip
 ·simp only [xL]at hl
  rcases x with p|_|_|_|_|_|_|_|_|_|_|_|_<;>first|exact fE b hl|skip
  cases p<;>first|exact fE b hl|skip
  rename_i l
  rcases i with p|_|_|_|_|_|_|_|_|_|_|_|_<;>first|exact fE b hl|skip
  cases p<;>first|exact fE b hl|skip
  rename_i k n
  obtain⟨h1, -,g⟩:=rR hl
  cases h1
  have f:0<=n∧n<l.length:=of_decide_eq_true g.symm
  have D:=q.wI
  have e2:=hi.rZ
  subst D;subst e2
  refine⟨_,?_,.d (.int _ _),rfl⟩
  rw [run_index_string w t _ k n hu,dif_pos (by rw [zx];exact f)]
  have j:n.toNat<l.length:=by omega
  simp [j]
  rfl
 ·rename_i len e
  simp only [yC]at hl
  rcases hc:vS x with _|cs
  ·simp only [hc]at hl;exact fE b hl
  rw [hc]at hl
  rcases i with p|_|_|_|_|_|_|_|_|_|_|_|_<;>first|exact fE b hl|skip
  cases p<;>first|exact fE b hl|skip
  rename_i k n
  rcases hk:szT P e with _|m
  ·simp only [hk]at hl;exact fE b hl
  simp only [hk]at hl
  obtain⟨⟨⟩,J,K,h1,E,_⟩:=M.bind_some hl
  obtain⟨-, -,g⟩:=M.rm h1
  have f:0<=n∧n<len:=of_decide_eq_true g.symm
  have e2:=hi.rZ
  subst e2
  obtain⟨vs,rfl,hlen,I⟩:=wT hc q
  obtain⟨v',F,G,H⟩:=zk (P:=P) (w:=w) E hlen I
  refine⟨v',?_,G,H⟩
  simp [Instr.index,asIntOf,run_underlying hu,f.1,f.2,rD hk,F]
theorem zw{es:List PD}{v:Value}(h:V S (.lst es) v):∃a c,v= .slice a es.length c∧es.length<=c:=by
 generalize hp:PD.lst es=p at h
 cases h with
 |nil a c=>cases hp;exact⟨a,c,rfl,Nat.zero_le _⟩
 |lst g b o c sz f hc j hS hV=>cases hp;exact⟨_,c,rfl,hc⟩
 |bool _=>cases hp
 |int _ _=>cases hp
 |str _=>cases hp
 |raw _ _=>cases hp
 |agg _ _ _ _=>cases hp
theorem V.elem{es:List PD}{v:Value}(h:V S (.lst es) v){i:Nat}{e:PD}(he:es[i]? =some e):
  ∃(b o c sz:Nat)(f:Nat->Nat->Value),v= .slice (some ⟨b,o,none⟩) es.length c∧es.length<=c∧(∀e∈es,e.cells.length=sz)∧
   (∀(i:Nat)e(j:Nat)x,es[i]? =some e->e.cells[j]? =some x->S ⟨b,o+i*sz+j,none⟩=some (f i j))∧
   (∀(i:Nat)e(j:Nat)x,es[i]? =some e->e.cells[j]? =some x->V S x (f i j)):=by
 generalize hp:PD.lst es=p at h
 cases h with
 |nil a c=>cases hp;simp at he
 |lst k b o c sz f hc g hS hV=>cases hp;exact⟨b,o,c,sz,f,rfl,hc,g,hS,hV⟩
 |bool _=>cases hp
 |int _ _=>cases hp
 |str _=>cases hp
 |raw _ _=>cases hp
 |agg _ _ _ _=>cases hp
theorem tw{t e:TypeId}{k:Nat}(hu:P.underlying t=some (.slice e))(hk:szT P e=some k){a:Addr}{n:Nat}{c:Nat}{f:IntKind}{i:Int}(h:0<=i∧i<n):
  (Instr.indexAt t (.slice (some a) n c) (.int f i)).run P w= .ok (.pointer (some (a.add (i.toNat*k)))) w:=by
 simp [Instr.indexAt,asIntOf,run_underlying hu,h,rD hk]
theorem uR{e sz n:Nat}{v:Value}{xs:List Value}(h:tP w e sz v n xs)(j:0<n):∃g c,v= .slice (some ⟨g,0,none⟩) n c:=by
 rcases h.2 with⟨_,f⟩|⟨g,cap,cur,_,rfl,_⟩
 ·omega
 ·exact⟨g,cap,rfl⟩
theorem yD(h:Sim P X S loc s tm w){t:TypeId}{x i v:RV}{u:Ups}{r:List Nat}{vx vi:Value}(hl:sx P t x i s.boxes=some ((v,u),r,true))(N:R S loc x vx)(hi:R S loc i vi):
  ∃v',(Instr.indexAt t vx vi).run P w= .ok v' w∧R S loc v v'∧u=[]:=by
 unfold sx at hl
 rcases hu:P.underlying t with _|ty
 ·simp only [hu]at hl;exact fE s.boxes hl
 rw [hu]at hl
 cases ty<;>first|exact fE s.boxes hl|skip
 case slice e=>
  rcases i with p|_|_|_|_|_|_|_|_|_|_|_|_<;>first|exact fE s.boxes hl|skip
  cases p<;>first|exact fE s.boxes hl|skip
  rename_i ki n
  have e2:=hi.rZ
  subst e2
  rcases hk:szT P e with _|k
  ·simp only [hk]at hl;exact fE s.boxes hl
  simp only [hk]at hl
  by_cases U:∃cs,x= .plit cs
  ·obtain⟨cs,rfl⟩:=U
   obtain⟨h1, -,G⟩:=rR hl
   cases h1
   simp only [Bool.true_eq,Bool.and_eq_true]at G
   have I:=of_decide_eq_true G.1
   obtain rfl:=of_decide_eq_true G.2
   cases N with
   |plit _ b o c f hc hS hV=>
    have T:n.toNat<cs.length:=by omega
    have hg:cs[n.toNat]? =some (cs.getD n.toNat default):=by simp [List.getD,zf T]
    refine⟨_,tw hu hk I,?_,rfl⟩
    rw [sJ,Nat.mul_one]
    exact .pcp _ b _ _ (hS _ _ hg) (hV _ _ hg)
  rcases x with p|_|_|_|_|_|⟨id,ver⟩|_|_|_|_|_|_<;>first|exact fE s.boxes hl|exact(U ⟨_,rfl⟩).elim|skip
  ·cases p<;>first|exact fE s.boxes hl|skip
   rename_i es
   obtain⟨h1, -,G⟩:=rR hl
   cases h1
   simp only [Bool.true_eq,Bool.and_eq_true,beq_iff_eq]at G
   obtain⟨G,K⟩:=G
   have I:=of_decide_eq_true G
   have H:es[n.toNat]? =some (es.getD n.toNat default):=by
    rw [List.getD_eq_getElem?_getD,zf za];rfl
   obtain⟨b,o,c,sz,f,rfl,hc,E,hS,hV⟩:=N.wC.elem H
   have W:sz=k:=by rw [<-E _ (List.mem_of_getElem? H)];exact K
   subst W
   refine⟨_,tw hu hk I,?_,rfl⟩
   rw [sJ]
   exact .cptr _ b _ (fun j=>f n.toNat j) (fun j c hj=>hS _ _ j c H hj) (fun j c hj=>hV _ _ j c H hj)
  ·obtain⟨bx,r1,r2,h1,D,_⟩:=M.bind_some hl
   obtain⟨Q,_,_⟩:=M.get_some h1
   cases bx with
   |arr C J es=>
    by_cases B:ver=C∧e=J
    rotate_left
    ·simp only [B,if_false]at D;exact fE s.boxes D
    simp only [B,and_self,if_true]at D
    obtain⟨rfl,rfl⟩:=B
    obtain⟨G, -,K⟩:=rR D
    cases G
    have I:0<=n∧n<es.length:=of_decide_eq_true K.symm
    obtain⟨sz,xs,F,E,how,hf⟩:=h.vL Q N
    obtain⟨g,c,rfl⟩:=uR (how.vP za) za
    rw [hk]at E
    cases E
    refine⟨_,tw hu hk I,?_,rfl⟩
    rw [sJ]
    refine .elt id ver n.toNat 0 _ _ rfl F fun C J O hdr he=>?_
    cases he
    exact⟨DA _,fun _=>⟨g,_,c,rfl,zc⟩⟩
   |var _=>exact fE s.boxes D
   |dead=>exact fE s.boxes D
   |map _ _ _=>exact fE s.boxes D
   |hole C J es j q rv=>
    by_cases B:ver=C∧e=J
    rotate_left
    ·simp only [B,if_false]at D;exact fE s.boxes D
    simp only [B,and_self,if_true]at D
    obtain⟨rfl,rfl⟩:=B
    obtain⟨G, -,K⟩:=rR D
    cases G
    have I:0<=n∧n<es.length:=of_decide_eq_true K.symm
    obtain⟨sz,xs,u,F,E,how,hf,L,ho,Y,hr⟩:=h.CU Q N
    obtain⟨g,c,rfl⟩:=uR (how.vP za) za
    rw [hk]at E
    cases E
    refine⟨_,tw hu hk I,?_,rfl⟩
    rw [sJ]
    refine .elt id ver n.toNat 0 _ _ rfl F fun C J O hdr he=>?_
    cases he
    exact⟨DA _,fun _=>⟨g,_,c,rfl,zc⟩⟩
   |nest C J e2 ess hh=>
    by_cases B:ver=C∧e=J
    rotate_left
    ·simp only [B,if_false]at D;exact fE s.boxes D
    simp only [B,and_self,if_true]at D
    obtain⟨rfl,rfl⟩:=B
    obtain⟨G, -,K⟩:=rR D
    cases G
    have I:0<=n∧n<ess.length:=of_decide_eq_true K.symm
    obtain⟨xs,bs,k2,F,E,a9,how,a5,a6,T⟩:=h.Bi Q N
    obtain⟨g,c,rfl⟩:=uR (how.vP za) za
    rw [hk]at E
    cases E
    refine⟨_,tw hu hk I,?_,rfl⟩
    rw [sJ]
    refine .elt id ver n.toNat 0 _ _ rfl F fun C J O hdr he=>?_
    cases he
    exact⟨DA _,fun _=>⟨g,_,c,rfl,zc⟩⟩
  ·rename_i id ver lo L
   obtain⟨bx,r1,r2,h1,D,_⟩:=M.bind_some hl
   obtain⟨Q,_,_⟩:=M.get_some h1
   cases bx with
   |arr C J es=>
    by_cases B:ver=C∧e=J
    rotate_left
    ·simp only [B,if_false]at D;exact fE s.boxes D
    simp only [B,and_self,if_true]at D
    obtain⟨rfl,rfl⟩:=B
    obtain⟨G, -,K⟩:=rR D
    cases G
    have I:0<=n∧n<(L:Int)-lo∧L<=es.length:=of_decide_eq_true K.symm
    obtain⟨sz,xs,hdr,F,E,how,hf,ho,hd⟩:=h.yt Q N
    rw [hk]at E
    cases E
    rcases hd with⟨h5,_⟩|⟨g,m,c,rfl,h5,h6,rfl⟩
    ·omega
    refine⟨_,tw hu hk (n:=L-lo) za,?_,rfl⟩
    rw [sJ]
    refine .elt id ver (lo+n.toNat) 0 _ _ rfl F fun C J O hdr he=>?_
    cases he
    exact⟨DA _,fun _=>⟨g,_,c,rfl,by rw [Nat.add_mul];simp⟩⟩
   |var _=>exact fE s.boxes D
   |dead=>exact fE s.boxes D
   |map _ _ _=>exact fE s.boxes D
   |nest _ _ _ _ _=>exact fE s.boxes D
   |hole _ _ _ _ _ _=>exact fE s.boxes D
 case array len e=>
  rcases i with p|_|_|_|_|_|_|_|_|_|_|_|_<;>first|exact fE s.boxes hl|skip
  cases p<;>first|exact fE s.boxes hl|skip
  rename_i ki n
  have e2:=hi.rZ
  subst e2
  rcases hk:szT P e with _|k
  ·simp only [hk]at hl;exact fE s.boxes hl
  simp only [hk]at hl
  obtain⟨_,r1,r2,h1,D,_⟩:=M.bind_some hl
  obtain⟨-, -,G⟩:=M.rm h1
  have I:0<=n∧n<len:=of_decide_eq_true G.symm
  obtain⟨a,rfl,hr,Y,_⟩:=w8 h D N
  refine⟨_,?_,hr,Y⟩
  simp [Instr.indexAt,asIntOf,run_underlying hu,I,rD hk,Instr.sureAddr]
theorem Sim.Cz(h:Sim P X S loc s tm w){id:Nat}{D E:TypeId}{es:List (PD×PD)}{v:Value}(u:s.boxes id=some (.map D E es))(B:R S loc (.ptr id 0) v):
  ∃b clock f,loc id=some (.map b)∧v= .map (some b)∧w.heap[b]? =some (.map f clock)∧f.size=es.length∧
   ∀(i:Nat)k x j,es[i]? =some (k,x)->f[i]? =some j->V S k j.key∧V S x j.val:=by
 obtain⟨L,r,q⟩:=h.boxes id _ u
 cases B with
 |ptr _ _ _ F _ g C=>
  rw [r]at g
  cases g
  cases q with
  |map _ _ _ b clock f hw hl hc=>exact⟨b,clock,f,r,(C b).2 .map,hw,hl,hc⟩
theorem Cx(h:Sim P X S loc s tm w){t ty:TypeId}{x v:RV}{u:Ups}{r:List Nat}{U:Value}(hl:yH P t x s.boxes=some ((v,u),r,true))(G:R S loc x U):
  ∃v',(DL #[t] ty #[U]).run P w= .ok v' w∧R S loc v v'∧u=[]:=by
 unfold yH at hl
 rcases hu:P.underlying t with _|d
 ·simp only [hu]at hl;exact fE s.boxes hl
 rw [hu]at hl
 cases d<;>first|exact fE s.boxes hl|skip
 case map kt vt=>
  rcases x with p|_|_|_|_|_|_|⟨id,off⟩|_|_|_|_|_<;>first|exact fE s.boxes hl|skip
  cases off<;>first|exact fE s.boxes hl|skip
  obtain⟨J,Q,T,h1,B,_⟩:=M.bind_some hl
  obtain⟨H,_,_⟩:=M.get_some h1
  cases J<;>first|exact fE s.boxes B|skip
  rename_i b2 b3 es
  obtain⟨F, -, -⟩:=rp B
  cases F
  obtain⟨b,clock,K,_,rfl,hw,O,_⟩:=h.Cz H G
  refine⟨goInt K.size,?_,?_,rfl⟩
  ·simp [DL,run_underlying hu,MapKept.run_getObj_map hw,Result.andThen]
  ·rw [O];exact .d (.int _ _)
 case string=>
  rcases x with p|_|_|_|_|_|_|_|_|_|_|_|_<;>first|exact fE s.boxes hl|skip
  cases p<;>first|exact fE s.boxes hl|skip
  rename_i l
  obtain⟨h1, -, -⟩:=rp hl
  cases h1
  have Y:=G.wI
  subst Y
  exact⟨_,run_len_string w t ty _ hu,by rw [zx];exact .d (.int _ _),rfl⟩
 case slice e=>
  by_cases L:∃cs,x= .plit cs
  ·obtain⟨cs,rfl⟩:=L
   obtain⟨h1, -, -⟩:=rp hl
   cases h1
   cases G with
   |plit _ b o c f hc hS hV=>exact⟨goInt cs.length,by simp [DL,run_underlying hu],.d (.int _ _),rfl⟩
  rcases x with p|_|_|_|_|_|⟨id,ver⟩|_|_|_|_|_|_<;>first|exact fE s.boxes hl|exact(L ⟨_,rfl⟩).elim|skip
  ·cases p<;>first|exact fE s.boxes hl|skip
   rename_i es
   obtain⟨h1, -, -⟩:=rp hl
   cases h1
   obtain⟨a,c,rfl,_⟩:=zw G.wC
   exact⟨goInt es.length,by simp [DL,run_underlying hu],.d (.int _ _),rfl⟩
  ·obtain⟨h1, -, -⟩:=rp hl
   cases h1
   cases G with
   |pY=>exact⟨goInt 0,by simp [DL,run_underlying hu],.d (.int _ _),rfl⟩
  ·obtain⟨J,Q,T,h1,B,_⟩:=M.bind_some hl
   obtain⟨H,_,_⟩:=M.get_some h1
   cases J with
   |arr C N es=>
    by_cases k:ver=C
    rotate_left
    ·simp only [k,if_false]at B;exact fE s.boxes B
    simp only [k,if_true]at B
    subst k
    obtain⟨F, -, -⟩:=rp B
    cases F
    obtain⟨sz,xs,E,I,how,hf⟩:=h.vL H G
    obtain⟨a,c,rfl,_⟩:=how.hdr
    exact⟨goInt es.length,by simp [DL,run_underlying hu],.d (.int _ _),rfl⟩
   |var _=>exact fE s.boxes B
   |dead=>exact fE s.boxes B
   |map _ _ _=>exact fE s.boxes B
   |hole C N es j q rv=>
    by_cases k:ver=C
    rotate_left
    ·simp only [k,if_false]at B;exact fE s.boxes B
    simp only [k,if_true]at B
    subst k
    obtain⟨F, -, -⟩:=rp B
    cases F
    obtain⟨sz,xs,u',E,I,how,hf,D,ho,b1,hr⟩:=h.CU H G
    obtain⟨a,c,rfl,_⟩:=how.hdr
    exact⟨goInt es.length,by simp [DL,run_underlying hu],.d (.int _ _),rfl⟩
   |nest C N e2 ess hh=>
    by_cases k:ver=C
    rotate_left
    ·simp only [k,if_false]at B;exact fE s.boxes B
    simp only [k,if_true]at B
    subst k
    obtain⟨F, -, -⟩:=rp B
    cases F
    obtain⟨xs,bs,k2,E,I,b0,how,a6,a9,a5⟩:=h.Bi H G
    obtain⟨a,c,rfl,_⟩:=how.hdr
    exact⟨goInt ess.length,by simp [DL,run_underlying hu],.d (.int _ _),rfl⟩
  ·rename_i id ver lo D
   obtain⟨J,Q,T,h1,B,_⟩:=M.bind_some hl
   obtain⟨H,_,_⟩:=M.get_some h1
   cases J with
   |arr C N es=>
    by_cases k:ver=C
    rotate_left
    ·simp only [k,if_false]at B;exact fE s.boxes B
    simp only [k,if_true]at B
    subst k
    obtain⟨F, -,h4⟩:=rR B
    cases F
    have hn:lo<=D∧D<=es.length:=of_decide_eq_true h4.symm
    obtain⟨sz,xs,hdr,E,I,how,hf,ho,hd⟩:=h.yt H G
    have W:((D:Int)-lo)=((D-lo:Nat):Int):=by omega
    rw [W]
    rcases hd with⟨rfl,a,rfl⟩|⟨g,m,c,rfl,h5,h6,rfl⟩
    ·exact⟨goInt 0,by simp [DL,run_underlying hu],by rw [Nat.sub_self];exact .d (.int _ _),rfl⟩
    ·exact⟨goInt (D-lo:Nat),by simp [DL,run_underlying hu],.d (.int _ _),rfl⟩
   |var _=>exact fE s.boxes B
   |dead=>exact fE s.boxes B
   |map _ _ _=>exact fE s.boxes B
   |nest _ _ _ _ _=>exact fE s.boxes B
   |hole _ _ _ _ _ _=>exact fE s.boxes B
end
end Go.Dw
