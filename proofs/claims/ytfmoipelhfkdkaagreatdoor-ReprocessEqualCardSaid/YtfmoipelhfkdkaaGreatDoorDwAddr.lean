
import Derived.Test.YtfmoipelhfkdkaaGreatDoorDwLoad
import Derived.MapKept
open Nat renaming add_assoc->DS, le_refl->DI
open Go.Builtin renaming len_->DT

namespace Go.Dw
section
variable {P:Program}{X:Ctx}{S:rP}{loc:ss}{s:St}{tm:Array Value}{w:World}
theorem xn(h:Sim P X S loc s tm w){off:Nat}{x v:RV}{u:Ups}{r:List Nat}{N:Value}(hl:xR off x s.boxes=some ((v,u),r,true))(I:R S loc x N):
  ∃a:Addr,N= .pointer (some a)∧R S loc v (.pointer (some (a.add off)))∧u=[]∧a.spot=none:=by
 cases x with
 |cptr cs=>
  replace hl:sQ (.cptr (cs.drop off)) s.boxes=some ((v,u),r,true):=hl
  obtain⟨h1, -, -⟩:=rH hl
  cases h1
  cases I with
  |cptr _ b o f hS hV=>
   refine⟨_,rfl,?_,rfl,rfl⟩
   rw [th]
   refine .cptr _ b (o+off) (fun j=>f (off+j)) (fun j c G=>?_) (fun j c G=>?_)
   ·rw [List.getElem?_drop]at G
    have:=hS _ c G
    rwa [<-DS]at this
   ·rw [List.getElem?_drop]at G
    exact hV _ c G
 |ptr id o=>
  obtain⟨J,Q,T,h1,C,_⟩:=M.bind_some hl
  obtain⟨H,_,_⟩:=M.get_some h1
  cases J with
  |var cs=>
   obtain⟨F, -, -⟩:=rH C
   cases F
   obtain⟨b,ty,vs,D,rfl,hw,hlen,W⟩:=h.BJ H I
   refine⟨_,rfl,?_,rfl,rfl⟩
   rw [th]
   exact .ptr id (o+off) _ _ rfl D fun b'=>⟨(fun he=>by cases he;rfl),(fun he=>by cases he)⟩
  |arr _ _ _=>exact fE s.boxes C
  |dead=>exact fE s.boxes C
  |map _ _ _=>exact fE s.boxes C
  |nest _ _ _ _ _=>exact fE s.boxes C
  |hole _ _ _ _ _ _=>exact fE s.boxes C
 |elt id ver i o=>
  obtain⟨J,Q,T,h1,C,_⟩:=M.bind_some hl
  obtain⟨H,_,_⟩:=M.get_some h1
  cases J with
  |arr E e es=>
   by_cases k:ver=E
   rotate_left
   ·simp only [k,if_false]at C;exact fE s.boxes C
   simp only [k,if_true]at C
   subst k
   obtain⟨F, -, -⟩:=rH C
   cases F
   obtain⟨sz,xs,g,n,c,D,rfl,K,how,hf⟩:=h.CH H I
   refine⟨_,rfl,?_,rfl,rfl⟩
   rw [th]
   refine .elt id ver i (o+off) _ _ rfl D fun E O L hdr he=>?_
   cases he
   exact⟨DI _,fun _=>⟨g,n,c,rfl,by rw [DS]⟩⟩
  |var _=>exact fE s.boxes C
  |dead=>exact fE s.boxes C
  |map _ _ _=>exact fE s.boxes C
  |nest _ _ _ _ _=>exact fE s.boxes C
  |hole E e es j q rv=>
   by_cases k:ver=E
   rotate_left
   ·simp only [k,if_false]at C;exact fE s.boxes C
   simp only [k,if_true]at C
   subst k
   obtain⟨F, -, -⟩:=rH C
   cases F
   obtain⟨sz,xs,u,g,n,c,D,rfl,K,how,hf,hi,ho,hu,U⟩:=h.Bs H I
   refine⟨_,rfl,?_,rfl,rfl⟩
   rw [th]
   refine .elt id ver i (o+off) _ _ rfl D fun E O L hdr he=>?_
   cases he
   exact⟨DI _,fun _=>⟨g,n,c,rfl,by rw [DS]⟩⟩
 |d p=>exact fE s.boxes hl
 |undef=>exact fE s.boxes hl
 |junk=>exact fE s.boxes hl
 |rm=>exact fE s.boxes hl
 |agg cs=>exact fE s.boxes hl
 |tup cs=>exact fE s.boxes hl
 |ref a b=>exact fE s.boxes hl
 |view a b c d=>exact fE s.boxes hl
 |clo a b=>exact fE s.boxes hl
 |fview _ _ _=>exact fE s.boxes hl
 |err _=>exact fE s.boxes hl
 |dfull _=>exact fE s.boxes hl
 |ifc _ _=>exact fE s.boxes hl
 |plit _=>exact fE s.boxes hl
 |pcp _=>exact fE s.boxes hl
theorem xQ{t:TypeId}{f off:Nat}{j:TypeId}(h:wm P t f=some (off,j)):∃g x,P.underlying t=some (.struct g)∧g[f]? =some x∧x.offset=off∧x.type=j:=by
 unfold wm at h
 split at h
 ·rename_i g hu
  split at h
  ·rename_i x k
   simp only [Option.some.injEq,Prod.mk.injEq]at h
   exact⟨g,x,hu,k,h.1,h.2⟩
  ·cases h
 ·cases h
theorem yP(h:Sim P X S loc s tm w){t:TypeId}{f:Nat}{x v:RV}{u:Ups}{r:List Nat}{g:Value}(hl:uu P t x f s.boxes=some ((v,u),r,true))(D:R S loc x g):
  ∃v',(Instr.fieldAt t g f).run P w= .ok v' w∧R S loc v v'∧u=[]:=by
 unfold uu at hl
 rcases hf:wm P t f with _|⟨off,j⟩
 ·simp only [hf]at hl;exact fE s.boxes hl
 simp only [hf]at hl
 rcases hk:szT P j with _|_|k
 ·simp only [hk]at hl;exact fE s.boxes hl
 ·simp only [hk]at hl;exact fE s.boxes hl
 simp only [hk]at hl
 obtain⟨a,rfl,C,hu,_⟩:=xn h hl D
 obtain⟨F,E,h1,q,rfl,rfl⟩:=xQ hf
 refine⟨_,?_,C,hu⟩
 simp [Instr.fieldAt,run_underlying h1,q,Instr.sureAddr,fieldPlace,rQ hk]
theorem Bo{t:TypeId}{f:Nat}{x v:RV}{b:sj}{u:Ups}{r:List Nat}{g:Value}(hl:xX P t x f b=some ((v,u),r,true))(E:R S loc x g):
  ∃v',(Instr.field t g f).run P w= .ok v' w∧R S loc v v'∧u=[]:=by
 unfold xX at hl
 rcases hf:wm P t f with _|⟨off,H⟩
 ·simp only [hf]at hl;exact fE b hl
 rcases hc:wg x with _|cs
 ·simp only [hf,hc]at hl;exact fE b hl
 simp only [hf,hc]at hl
 obtain⟨vs,rfl,hlen,D⟩:=w8 hc E
 obtain⟨G,F,h1,j,rfl,rfl⟩:=xQ hf
 obtain⟨v',k,q,C⟩:=zD (P:=P) (w:=w) hl hlen D
 exact⟨v',by simp [Instr.field,run_underlying h1,j,asAgg,k],q,C⟩
theorem tj{t e:TypeId}(h:sD P t=some e):P.underlying t=some (.slice e):=by
 unfold sD at h
 split at h<;>simp_all
theorem Bu{t:TypeId}{x i v:RV}{b:sj}{u:Ups}{r:List Nat}{D C:Value}(hl:xi P t x i b=some ((v,u),r,true))(q:R S loc x D)(hi:R S loc i C):
  ∃v',(Instr.index t D C).run P w= .ok v' w∧R S loc v v'∧u=[]:=by
 unfold xi at hl
 rcases hu:P.underlying t with _|ty
 ·simp only [hu]at hl;exact fE b hl
 rw [hu]at hl
 cases ty<;>first|exact fE b hl|skip
 ·simp only [xZ]at hl
  rcases x with p|_|_|_|_|_|_|_|_|_|_|_|_<;>first|exact fE b hl|skip
  cases p<;>first|exact fE b hl|skip
  rename_i l
  rcases i with p|_|_|_|_|_|_|_|_|_|_|_|_<;>first|exact fE b hl|skip
  cases p<;>first|exact fE b hl|skip
  rename_i k n
  obtain⟨h1, -,g⟩:=sd hl
  cases h1
  have f:0<=n∧n<l.length:=of_decide_eq_true g.symm
  have E:=q.wU
  have e2:=hi.sk
  subst E;subst e2
  refine⟨_,?_,.d (.int _ _),rfl⟩
  rw [run_index_string w t _ k n hu,dif_pos (by rw [zQ];exact f)]
  have j:n.toNat<l.length:=by omega
  simp [j]
  rfl
 ·rename_i len e
  simp only [yS]at hl
  rcases hc:wg x with _|cs
  ·simp only [hc]at hl;exact fE b hl
  rw [hc]at hl
  rcases i with p|_|_|_|_|_|_|_|_|_|_|_|_<;>first|exact fE b hl|skip
  cases p<;>first|exact fE b hl|skip
  rename_i k n
  rcases hk:szT P e with _|m
  ·simp only [hk]at hl;exact fE b hl
  simp only [hk]at hl
  obtain⟨⟨⟩,K,L,h1,F,_⟩:=M.bind_some hl
  obtain⟨-, -,g⟩:=M.rE h1
  have f:0<=n∧n<len:=of_decide_eq_true g.symm
  have e2:=hi.sk
  subst e2
  obtain⟨vs,rfl,hlen,J⟩:=w8 hc q
  obtain⟨v',G,H,I⟩:=zD (P:=P) (w:=w) F hlen J
  refine⟨v',?_,H,I⟩
  simp [Instr.index,asIntOf,run_underlying hu,f.1,f.2,rQ hk,G]
theorem zP{es:List PD}{v:Value}(h:V S (.lst es) v):∃a c,v= .slice a es.length c∧es.length<=c:=by
 generalize hp:PD.lst es=p at h
 cases h with
 |nil a c=>cases hp;exact⟨a,c,rfl,Nat.zero_le _⟩
 |lst g b o c sz f hc j hS hV=>cases hp;exact⟨_,c,rfl,hc⟩
 |bool _=>cases hp
 |int _ _=>cases hp
 |str _=>cases hp
 |raw _ _=>cases hp
 |agg _ _ _ _=>cases hp
theorem V.elem{es:List PD}{v:Value}(h:V S (.lst es) v){i:Nat}{e:PD}(he:es[i]? =some e):
  ∃(b o c sz:Nat)(f:Nat->Nat->Value),v= .slice (some ⟨b,o,none⟩) es.length c∧es.length<=c∧(∀e∈es,e.cells.length=sz)∧
   (∀(i:Nat)e(j:Nat)x,es[i]? =some e->e.cells[j]? =some x->S ⟨b,o+i*sz+j,none⟩=some (f i j))∧
   (∀(i:Nat)e(j:Nat)x,es[i]? =some e->e.cells[j]? =some x->V S x (f i j)):=by
 generalize hp:PD.lst es=p at h
 cases h with
 |nil a c=>cases hp;simp at he
 |lst k b o c sz f hc g hS hV=>cases hp;exact⟨b,o,c,sz,f,rfl,hc,g,hS,hV⟩
 |bool _=>cases hp
 |int _ _=>cases hp
 |str _=>cases hp
 |raw _ _=>cases hp
 |agg _ _ _ _=>cases hp
theorem tL{t e:TypeId}{k:Nat}(hu:P.underlying t=some (.slice e))(hk:szT P e=some k){a:Addr}{n:Nat}{c:Nat}{f:IntKind}{i:Int}(h:0<=i∧i<n):
  (Instr.indexAt t (.slice (some a) n c) (.int f i)).run P w= .ok (.pointer (some (a.add (i.toNat*k)))) w:=by
 simp [Instr.indexAt,asIntOf,run_underlying hu,h,rQ hk]
theorem u7{e sz n:Nat}{v:Value}{xs:List Value}(h:ub w e sz v n xs)(j:0<n):∃g c,v= .slice (some ⟨g,0,none⟩) n c:=by
 rcases h.2 with⟨_,f⟩|⟨g,cap,cur,_,rfl,_⟩
 ·omega
 ·exact⟨g,cap,rfl⟩
theorem yT(h:Sim P X S loc s tm w){t:TypeId}{x i v:RV}{u:Ups}{r:List Nat}{vx vi:Value}(hl:tc P t x i s.boxes=some ((v,u),r,true))(O:R S loc x vx)(hi:R S loc i vi):
  ∃v',(Instr.indexAt t vx vi).run P w= .ok v' w∧R S loc v v'∧u=[]:=by
 unfold tc at hl
 rcases hu:P.underlying t with _|ty
 ·simp only [hu]at hl;exact fE s.boxes hl
 rw [hu]at hl
 cases ty<;>first|exact fE s.boxes hl|skip
 case slice e=>
  rcases i with p|_|_|_|_|_|_|_|_|_|_|_|_<;>first|exact fE s.boxes hl|skip
  cases p<;>first|exact fE s.boxes hl|skip
  rename_i ki n
  have e2:=hi.sk
  subst e2
  rcases hk:szT P e with _|k
  ·simp only [hk]at hl;exact fE s.boxes hl
  simp only [hk]at hl
  by_cases W:∃cs,x= .plit cs
  ·obtain⟨cs,rfl⟩:=W
   obtain⟨h1, -,H⟩:=sd hl
   cases h1
   simp only [Bool.true_eq,Bool.and_eq_true]at H
   have J:=of_decide_eq_true H.1
   obtain rfl:=of_decide_eq_true H.2
   cases O with
   |plit _ b o c f hc hS hV=>
    have U:n.toNat<cs.length:=by omega
    have hg:cs[n.toNat]? =some (cs.getD n.toNat default):=by simp [List.getD,zf U]
    refine⟨_,tL hu hk J,?_,rfl⟩
    rw [th,Nat.mul_one]
    exact .pcp _ b _ _ (hS _ _ hg) (hV _ _ hg)
  rcases x with p|_|_|_|_|_|⟨id,ver⟩|_|_|_|_|_|_<;>first|exact fE s.boxes hl|exact(W ⟨_,rfl⟩).elim|skip
  ·cases p<;>first|exact fE s.boxes hl|skip
   rename_i es
   obtain⟨h1, -,H⟩:=sd hl
   cases h1
   simp only [Bool.true_eq,Bool.and_eq_true,beq_iff_eq]at H
   obtain⟨H,L⟩:=H
   have J:=of_decide_eq_true H
   have I:es[n.toNat]? =some (es.getD n.toNat default):=by
    rw [List.getD_eq_getElem?_getD,zf za];rfl
   obtain⟨b,o,c,sz,f,rfl,hc,F,hS,hV⟩:=O.wN.elem I
   have Y:sz=k:=by rw [<-F _ (List.mem_of_getElem? I)];exact L
   subst Y
   refine⟨_,tL hu hk J,?_,rfl⟩
   rw [th]
   exact .cptr _ b _ (fun j=>f n.toNat j) (fun j c hj=>hS _ _ j c I hj) (fun j c hj=>hV _ _ j c I hj)
  ·obtain⟨bx,r1,r2,h1,E,_⟩:=M.bind_some hl
   obtain⟨T,_,_⟩:=M.get_some h1
   cases bx with
   |arr D K es=>
    by_cases C:ver=D∧e=K
    rotate_left
    ·simp only [C,if_false]at E;exact fE s.boxes E
    simp only [C,and_self,if_true]at E
    obtain⟨rfl,rfl⟩:=C
    obtain⟨H, -,L⟩:=sd E
    cases H
    have J:0<=n∧n<es.length:=of_decide_eq_true L.symm
    obtain⟨sz,xs,G,F,how,hf⟩:=h.vX T O
    obtain⟨g,c,rfl⟩:=u7 (how.v8 za) za
    rw [hk]at F
    cases F
    refine⟨_,tL hu hk J,?_,rfl⟩
    rw [th]
    refine .elt id ver n.toNat 0 _ _ rfl G fun D K Q hdr he=>?_
    cases he
    exact⟨DI _,fun _=>⟨g,_,c,rfl,zc⟩⟩
   |var _=>exact fE s.boxes E
   |dead=>exact fE s.boxes E
   |map _ _ _=>exact fE s.boxes E
   |hole D K es j q rv=>
    by_cases C:ver=D∧e=K
    rotate_left
    ·simp only [C,if_false]at E;exact fE s.boxes E
    simp only [C,and_self,if_true]at E
    obtain⟨rfl,rfl⟩:=C
    obtain⟨H, -,L⟩:=sd E
    cases H
    have J:0<=n∧n<es.length:=of_decide_eq_true L.symm
    obtain⟨sz,xs,u,G,F,how,hf,N,ho,a5,hr⟩:=h.Dd T O
    obtain⟨g,c,rfl⟩:=u7 (how.v8 za) za
    rw [hk]at F
    cases F
    refine⟨_,tL hu hk J,?_,rfl⟩
    rw [th]
    refine .elt id ver n.toNat 0 _ _ rfl G fun D K Q hdr he=>?_
    cases he
    exact⟨DI _,fun _=>⟨g,_,c,rfl,zc⟩⟩
   |nest D K e2 ess hh=>
    by_cases C:ver=D∧e=K
    rotate_left
    ·simp only [C,if_false]at E;exact fE s.boxes E
    simp only [C,and_self,if_true]at E
    obtain⟨rfl,rfl⟩:=C
    obtain⟨H, -,L⟩:=sd E
    cases H
    have J:0<=n∧n<ess.length:=of_decide_eq_true L.symm
    obtain⟨xs,bs,k2,G,F,b0,how,a6,a9,U⟩:=h.Bx T O
    obtain⟨g,c,rfl⟩:=u7 (how.v8 za) za
    rw [hk]at F
    cases F
    refine⟨_,tL hu hk J,?_,rfl⟩
    rw [th]
    refine .elt id ver n.toNat 0 _ _ rfl G fun D K Q hdr he=>?_
    cases he
    exact⟨DI _,fun _=>⟨g,_,c,rfl,zc⟩⟩
  ·rename_i id ver lo N
   obtain⟨bx,r1,r2,h1,E,_⟩:=M.bind_some hl
   obtain⟨T,_,_⟩:=M.get_some h1
   cases bx with
   |arr D K es=>
    by_cases C:ver=D∧e=K
    rotate_left
    ·simp only [C,if_false]at E;exact fE s.boxes E
    simp only [C,and_self,if_true]at E
    obtain⟨rfl,rfl⟩:=C
    obtain⟨H, -,L⟩:=sd E
    cases H
    have J:0<=n∧n<(N:Int)-lo∧N<=es.length:=of_decide_eq_true L.symm
    obtain⟨sz,xs,hdr,G,F,how,hf,ho,hd⟩:=h.yK T O
    rw [hk]at F
    cases F
    rcases hd with⟨h5,_⟩|⟨g,m,c,rfl,h5,h6,rfl⟩
    ·omega
    refine⟨_,tL hu hk (n:=N-lo) za,?_,rfl⟩
    rw [th]
    refine .elt id ver (lo+n.toNat) 0 _ _ rfl G fun D K Q hdr he=>?_
    cases he
    exact⟨DI _,fun _=>⟨g,_,c,rfl,by rw [Nat.add_mul];simp⟩⟩
   |var _=>exact fE s.boxes E
   |dead=>exact fE s.boxes E
   |map _ _ _=>exact fE s.boxes E
   |nest _ _ _ _ _=>exact fE s.boxes E
   |hole _ _ _ _ _ _=>exact fE s.boxes E
 case array len e=>
  rcases i with p|_|_|_|_|_|_|_|_|_|_|_|_<;>first|exact fE s.boxes hl|skip
  cases p<;>first|exact fE s.boxes hl|skip
  rename_i ki n
  have e2:=hi.sk
  subst e2
  rcases hk:szT P e with _|k
  ·simp only [hk]at hl;exact fE s.boxes hl
  simp only [hk]at hl
  obtain⟨_,r1,r2,h1,E,_⟩:=M.bind_some hl
  obtain⟨-, -,H⟩:=M.rE h1
  have J:0<=n∧n<len:=of_decide_eq_true H.symm
  obtain⟨a,rfl,hr,a5,_⟩:=xn h E O
  refine⟨_,?_,hr,a5⟩
  simp [Instr.indexAt,asIntOf,run_underlying hu,J,rQ hk,Instr.sureAddr]
theorem Sim.CT(h:Sim P X S loc s tm w){id:Nat}{E F:TypeId}{es:List (PD×PD)}{v:Value}(u:s.boxes id=some (.map E F es))(C:R S loc (.ptr id 0) v):
  ∃b clock f,loc id=some (.map b)∧v= .map (some b)∧w.heap[b]? =some (.map f clock)∧f.size=es.length∧
   ∀(i:Nat)k x j,es[i]? =some (k,x)->f[i]? =some j->V S k j.key∧V S x j.val:=by
 obtain⟨L,r,q⟩:=h.boxes id _ u
 cases C with
 |ptr _ _ _ G _ g D=>
  rw [r]at g
  cases g
  cases q with
  |map _ _ _ b clock f hw hl hc=>exact⟨b,clock,f,r,(D b).2 .map,hw,hl,hc⟩
theorem CR(h:Sim P X S loc s tm w){t ty:TypeId}{x v:RV}{u:Ups}{r:List Nat}{W:Value}(hl:yW P t x s.boxes=some ((v,u),r,true))(H:R S loc x W):
  ∃v',(DT #[t] ty #[W]).run P w= .ok v' w∧R S loc v v'∧u=[]:=by
 unfold yW at hl
 rcases hu:P.underlying t with _|d
 ·simp only [hu]at hl;exact fE s.boxes hl
 rw [hu]at hl
 cases d<;>first|exact fE s.boxes hl|skip
 case map kt vt=>
  rcases x with p|_|_|_|_|_|_|⟨id,off⟩|_|_|_|_|_<;>first|exact fE s.boxes hl|skip
  cases off<;>first|exact fE s.boxes hl|skip
  obtain⟨K,T,U,h1,C,_⟩:=M.bind_some hl
  obtain⟨I,_,_⟩:=M.get_some h1
  cases K<;>first|exact fE s.boxes C|skip
  rename_i b2 b3 es
  obtain⟨G, -, -⟩:=rH C
  cases G
  obtain⟨b,clock,L,_,rfl,hw,Q,_⟩:=h.CT I H
  refine⟨goInt L.size,?_,?_,rfl⟩
  ·simp [DT,run_underlying hu,MapKept.run_getObj_map hw,Result.andThen]
  ·rw [Q];exact .d (.int _ _)
 case string=>
  rcases x with p|_|_|_|_|_|_|_|_|_|_|_|_<;>first|exact fE s.boxes hl|skip
  cases p<;>first|exact fE s.boxes hl|skip
  rename_i l
  obtain⟨h1, -, -⟩:=rH hl
  cases h1
  have e1:=H.wU
  subst e1
  exact⟨_,run_len_string w t ty _ hu,by rw [zQ];exact .d (.int _ _),rfl⟩
 case slice e=>
  by_cases N:∃cs,x= .plit cs
  ·obtain⟨cs,rfl⟩:=N
   obtain⟨h1, -, -⟩:=rH hl
   cases h1
   cases H with
   |plit _ b o c f hc hS hV=>exact⟨goInt cs.length,by simp [DT,run_underlying hu],.d (.int _ _),rfl⟩
  rcases x with p|_|_|_|_|_|⟨id,ver⟩|_|_|_|_|_|_<;>first|exact fE s.boxes hl|exact(N ⟨_,rfl⟩).elim|skip
  ·cases p<;>first|exact fE s.boxes hl|skip
   rename_i es
   obtain⟨h1, -, -⟩:=rH hl
   cases h1
   obtain⟨a,c,rfl,_⟩:=zP H.wN
   exact⟨goInt es.length,by simp [DT,run_underlying hu],.d (.int _ _),rfl⟩
  ·obtain⟨h1, -, -⟩:=rH hl
   cases h1
   cases H with
   |rm=>exact⟨goInt 0,by simp [DT,run_underlying hu],.d (.int _ _),rfl⟩
  ·obtain⟨K,T,U,h1,C,_⟩:=M.bind_some hl
   obtain⟨I,_,_⟩:=M.get_some h1
   cases K with
   |arr D O es=>
    by_cases k:ver=D
    rotate_left
    ·simp only [k,if_false]at C;exact fE s.boxes C
    simp only [k,if_true]at C
    subst k
    obtain⟨G, -, -⟩:=rH C
    cases G
    obtain⟨sz,xs,F,J,how,hf⟩:=h.vX I H
    obtain⟨a,c,rfl,_⟩:=how.hdr
    exact⟨goInt es.length,by simp [DT,run_underlying hu],.d (.int _ _),rfl⟩
   |var _=>exact fE s.boxes C
   |dead=>exact fE s.boxes C
   |map _ _ _=>exact fE s.boxes C
   |hole D O es j q rv=>
    by_cases k:ver=D
    rotate_left
    ·simp only [k,if_false]at C;exact fE s.boxes C
    simp only [k,if_true]at C
    subst k
    obtain⟨G, -, -⟩:=rH C
    cases G
    obtain⟨sz,xs,u',F,J,how,hf,E,ho,b1,hr⟩:=h.Dd I H
    obtain⟨a,c,rfl,_⟩:=how.hdr
    exact⟨goInt es.length,by simp [DT,run_underlying hu],.d (.int _ _),rfl⟩
   |nest D O e2 ess hh=>
    by_cases k:ver=D
    rotate_left
    ·simp only [k,if_false]at C;exact fE s.boxes C
    simp only [k,if_true]at C
    subst k
    obtain⟨G, -, -⟩:=rH C
    cases G
    obtain⟨xs,bs,k2,F,J,b0,how,a6,a9,a5⟩:=h.Bx I H
    obtain⟨a,c,rfl,_⟩:=how.hdr
    exact⟨goInt ess.length,by simp [DT,run_underlying hu],.d (.int _ _),rfl⟩
  ·rename_i id ver lo E
   obtain⟨K,T,U,h1,C,_⟩:=M.bind_some hl
   obtain⟨I,_,_⟩:=M.get_some h1
   cases K with
   |arr D O es=>
    by_cases k:ver=D
    rotate_left
    ·simp only [k,if_false]at C;exact fE s.boxes C
    simp only [k,if_true]at C
    subst k
    obtain⟨G, -,h4⟩:=sd C
    cases G
    have hn:lo<=E∧E<=es.length:=of_decide_eq_true h4.symm
    obtain⟨sz,xs,hdr,F,J,how,hf,ho,hd⟩:=h.yK I H
    have Y:((E:Int)-lo)=((E-lo:Nat):Int):=by omega
    rw [Y]
    rcases hd with⟨rfl,a,rfl⟩|⟨g,m,c,rfl,h5,h6,rfl⟩
    ·exact⟨goInt 0,by simp [DT,run_underlying hu],by rw [Nat.sub_self];exact .d (.int _ _),rfl⟩
    ·exact⟨goInt (E-lo:Nat),by simp [DT,run_underlying hu],.d (.int _ _),rfl⟩
   |var _=>exact fE s.boxes C
   |dead=>exact fE s.boxes C
   |map _ _ _=>exact fE s.boxes C
   |nest _ _ _ _ _=>exact fE s.boxes C
   |hole _ _ _ _ _ _=>exact fE s.boxes C
end
end Go.Dw
