
import Derived.Test.YthkfkgoddhehcaaGreatDwLoad
import Derived.MapKept
open Nat renaming add_assoc->EL, le_refl->EB
open Go.Builtin renaming len_->EM

namespace Go.Dw
section
variable {P:Program}{X:Ctx}{S:tG}{loc:ui}{s:St}{tm:Array Value}{w:World}
theorem yz(h:Sim P X S loc s tm w){off:Nat}{x v:RV}{u:Ups}{r:List Nat}{F:Value}(k:yZ off x s.boxes=some ((v,u),r,true))(E:R S loc x F):
  ∃a:Addr,F= .pointer (some a)∧R S loc v (.pointer (some (a.add off)))∧u=[]∧a.spot=none:=by
 cases x with
 |cptr cs=>
  replace k:uB (.cptr (cs.drop off)) s.boxes=some ((v,u),r,true):=k
  obtain⟨h1, -, -⟩:=tR k
  cases h1
  cases E with
  |cptr _ b o f hS hV=>
   refine⟨_,rfl,?_,rfl,rfl⟩
   rw [uC]
   refine .cptr _ b (o+off) (λj=>f (off+j)) (λj c z=>?_) (λj c z=>?_)
   ·rw [List.getElem?_drop]at z
    have:=hS _ c z
    rwa [<-EL]at this
   ·rw [List.getElem?_drop]at z
    exact hV _ c z
 |ptr id o=>
  obtain⟨B,H,I,h1,l,_⟩:=M.bind_some k
  obtain⟨D,_,_⟩:=M.get_some h1
  cases B with
  |var cs=>
   obtain⟨C, -, -⟩:=tR l
   cases C
   obtain⟨b,ty,vs,q,rfl,hw,hlen,L⟩:=h.Cx D E
   refine⟨_,rfl,?_,rfl,rfl⟩
   rw [uC]
   exact .ptr id (o+off) _ _ rfl q λb'=>⟨(λhe=>by cases he;rfl),(λhe=>by cases he)⟩
  |arr _ _ _=>exact fE s.boxes l
  |dead=>exact fE s.boxes l
  |nest _ _ _ _ _=>exact fE s.boxes l
 |elt id ver i o=>
  obtain⟨B,H,I,h1,l,_⟩:=M.bind_some k
  obtain⟨D,_,_⟩:=M.get_some h1
  cases B with
  |arr y e es=>
   by_cases t:ver=y
   rotate_left
   ·simp only [t,if_false]at l;exact fE s.boxes l
   simp only [t,if_true]at l
   subst t
   obtain⟨C, -, -⟩:=tR l
   cases C
   obtain⟨sz,xs,g,n,c,q,rfl,G,how,hf⟩:=h.Du D E
   refine⟨_,rfl,?_,rfl,rfl⟩
   rw [uC]
   refine .elt id ver i (o+off) _ _ rfl q λy K J hdr he=>?_
   cases he
   exact⟨EB _,λ_=>⟨g,n,c,rfl,by rw [EL]⟩⟩
  |var _=>exact fE s.boxes l
  |dead=>exact fE s.boxes l
  |nest _ _ _ _ _=>exact fE s.boxes l
 |d p=>exact fE s.boxes k
 |undef=>exact fE s.boxes k
 |junk=>exact fE s.boxes k
 |tC=>exact fE s.boxes k
 |agg cs=>exact fE s.boxes k
 |tup cs=>exact fE s.boxes k
 |ref a b=>exact fE s.boxes k
 |view a b c d=>exact fE s.boxes k
 |clo a b=>exact fE s.boxes k
 |err _=>exact fE s.boxes k
 |ifc _ _=>exact fE s.boxes k
 |plit _=>exact fE s.boxes k
 |pcp _=>exact fE s.boxes k
theorem yY{t:TypeId}{f off:Nat}{c:TypeId}(h:xA P t f=some (off,c)):∃a x,P.underlying t=some (.struct a)∧a[f]? =some x∧x.offset=off∧x.type=c:=by
 unfold xA at h
 split at h
 ·rename_i a hu
  split at h
  ·rename_i x g
   simp only [Option.some.injEq,Prod.mk.injEq]at h
   exact⟨a,x,hu,g,h.1,h.2⟩
  ·cases h
 ·cases h
theorem Al(h:Sim P X S loc s tm w){t:TypeId}{f:Nat}{x v:RV}{u:Ups}{r:List Nat}{g:Value}(c:vQ P t x f s.boxes=some ((v,u),r,true))(q:R S loc x g):
  ∃v',(Instr.fieldAt t g f).run P w= .ok v' w∧R S loc v v'∧u=[]:=by
 unfold vQ at c
 rcases hf:xA P t f with _|⟨off,j⟩
 ·simp only [hf]at c;exact fE s.boxes c
 simp only [hf]at c
 rcases hk:szT P j with _|_|k
 ·simp only [hk]at c;exact fE s.boxes c
 ·simp only [hk]at c;exact fE s.boxes c
 simp only [hk]at c
 obtain⟨a,rfl,p,hu,_⟩:=yz h c q
 obtain⟨z,y,h1,l,rfl,rfl⟩:=yY hf
 refine⟨_,?_,p,hu⟩
 simp [Instr.fieldAt,run_underlying h1,l,Instr.sureAddr,fieldPlace,tQ hk]
theorem Cc{t:TypeId}{f:Nat}{x v:RV}{b:tY}{u:Ups}{r:List Nat}{c:Value}(a:zk P t x f b=some ((v,u),r,true))(q:R S loc x c):
  ∃v',(Instr.field t c f).run P w= .ok v' w∧R S loc v v'∧u=[]:=by
 unfold zk at a
 rcases hf:xA P t f with _|⟨off,B⟩
 ·simp only [hf]at a;exact fE b a
 rcases hc:xw x with _|cs
 ·simp only [hf,hc]at a;exact fE b a
 simp only [hf,hc]at a
 obtain⟨vs,rfl,hlen,p⟩:=ym hc q
 obtain⟨z,y,h1,g,rfl,rfl⟩:=yY hf
 obtain⟨v',j,k,l⟩:=AR (P:=P) (w:=w) a hlen p
 exact⟨v',by simp [Instr.field,run_underlying h1,g,asAgg,j],k,l⟩
theorem uW{t e:TypeId}(h:uA P t=some e):P.underlying t=some (.slice e):=by
 unfold uA at h
 split at h<;>simp_all
theorem Cj{t:TypeId}{x i v:RV}{b:tY}{u:Ups}{r:List Nat}{y q:Value}(a:yu P t x i b=some ((v,u),r,true))(j:R S loc x y)(hi:R S loc i q):
  ∃v',(Instr.index t y q).run P w= .ok v' w∧R S loc v v'∧u=[]:=by
 unfold yu at a
 rcases hu:P.underlying t with _|ty
 ·simp only [hu]at a;exact fE b a
 rw [hu]at a
 cases ty<;>first|exact fE b a|skip
 ·simp only [zn]at a
  rcases x with p|_|_|_|_|_|_|_|_|_|_|_|_<;>first|exact fE b a|skip
  cases p<;>first|exact fE b a|skip
  rename_i l
  rcases i with p|_|_|_|_|_|_|_|_|_|_|_|_<;>first|exact fE b a|skip
  cases p<;>first|exact fE b a|skip
  rename_i k n
  obtain⟨h1, -,f⟩:=ua a
  cases h1
  have c:0<=n∧n<l.length:=of_decide_eq_true f.symm
  have z:=j.xZ
  have e2:=hi.uo
  subst z;subst e2
  refine⟨_,?_,.d (.int _ _),rfl⟩
  rw [run_index_string w t _ k n hu,dif_pos (by rw [A2];exact c)]
  have g:n.toNat<l.length:=by omega
  simp [g]
  rfl
 ·rename_i len e
  simp only [Ao]at a
  rcases hc:xw x with _|cs
  ·simp only [hc]at a;exact fE b a
  rw [hc]at a
  rcases i with p|_|_|_|_|_|_|_|_|_|_|_|_<;>first|exact fE b a|skip
  cases p<;>first|exact fE b a|skip
  rename_i k n
  rcases hk:szT P e with _|m
  ·simp only [hk]at a;exact fE b a
  simp only [hk]at a
  obtain⟨⟨⟩,G,H,h1,B,_⟩:=M.bind_some a
  obtain⟨-, -,f⟩:=M.tK h1
  have c:0<=n∧n<len:=of_decide_eq_true f.symm
  have e2:=hi.uo
  subst e2
  obtain⟨vs,rfl,hlen,F⟩:=ym hc j
  obtain⟨v',C,D,E⟩:=AR (P:=P) (w:=w) B hlen F
  refine⟨v',?_,D,E⟩
  simp [Instr.index,asIntOf,run_underlying hu,c.1,c.2,tQ hk,C]
theorem A1{es:List PD}{v:Value}(h:V S (.lst es) v):∃a c,v= .slice a es.length c∧es.length<=c:=by
 generalize hp:PD.lst es=p at h
 cases h with
 |nil a c=>cases hp;exact⟨a,c,rfl,Nat.zero_le _⟩
 |lst g b o c sz f hc j hS hV=>cases hp;exact⟨_,c,rfl,hc⟩
 |bool _=>cases hp
 |int _ _=>cases hp
 |str _=>cases hp
 |raw _ _=>cases hp
 |agg _ _ _ _=>cases hp
theorem V.elem{es:List PD}{v:Value}(h:V S (.lst es) v){i:Nat}{e:PD}(he:es[i]? =some e):
  ∃(b o c sz:Nat)(f:Nat->Nat->Value),v= .slice (some ⟨b,o,none⟩) es.length c∧es.length<=c∧(∀e∈es,e.cells.length=sz)∧
   (∀(i:Nat)e(j:Nat)x,es[i]? =some e->e.cells[j]? =some x->S ⟨b,o+i*sz+j,none⟩=some (f i j))∧
   (∀(i:Nat)e(j:Nat)x,es[i]? =some e->e.cells[j]? =some x->V S x (f i j)):=by
 generalize hp:PD.lst es=p at h
 cases h with
 |nil a c=>cases hp;simp at he
 |lst k b o c sz f hc g hS hV=>cases hp;exact⟨b,o,c,sz,f,rfl,hc,g,hS,hV⟩
 |bool _=>cases hp
 |int _ _=>cases hp
 |str _=>cases hp
 |raw _ _=>cases hp
 |agg _ _ _ _=>cases hp
theorem vF{t e:TypeId}{k:Nat}(hu:P.underlying t=some (.slice e))(hk:szT P e=some k){a:Addr}{n:Nat}{c:Nat}{f:IntKind}{i:Int}(h:0<=i∧i<n):
  (Instr.indexAt t (.slice (some a) n c) (.int f i)).run P w= .ok (.pointer (some (a.add (i.toNat*k)))) w:=by
 simp [Instr.indexAt,asIntOf,run_underlying hu,h,tQ hk]
theorem vk{e sz n:Nat}{v:Value}{xs:List Value}(h:uY w e sz v n xs)(f:0<n):∃g c,v= .slice (some ⟨g,0,none⟩) n c:=by
 rcases h.2 with⟨_,a⟩|⟨g,cap,cur,_,rfl,_⟩
 ·omega
 ·exact⟨g,cap,rfl⟩
theorem Ap(h:Sim P X S loc s tm w){t:TypeId}{x i v:RV}{u:Ups}{r:List Nat}{vx vi:Value}(y:uG P t x i s.boxes=some ((v,u),r,true))(J:R S loc x vx)(hi:R S loc i vi):
  ∃v',(Instr.indexAt t vx vi).run P w= .ok v' w∧R S loc v v'∧u=[]:=by
 unfold uG at y
 rcases hu:P.underlying t with _|ty
 ·simp only [hu]at y;exact fE s.boxes y
 rw [hu]at y
 cases ty<;>first|exact fE s.boxes y|skip
 case slice e=>
  rcases i with p|_|_|_|_|_|_|_|_|_|_|_|_<;>first|exact fE s.boxes y|skip
  cases p<;>first|exact fE s.boxes y|skip
  rename_i ki n
  have e2:=hi.uo
  subst e2
  rcases hk:szT P e with _|k
  ·simp only [hk]at y;exact fE s.boxes y
  simp only [hk]at y
  by_cases L:∃cs,x= .plit cs
  ·obtain⟨cs,rfl⟩:=L
   obtain⟨h1, -,D⟩:=ua y
   cases h1
   simp only [Bool.true_eq,Bool.and_eq_true]at D
   have F:=of_decide_eq_true D.1
   obtain rfl:=of_decide_eq_true D.2
   cases J with
   |plit _ b o c f hc hS hV=>
    have K:n.toNat<cs.length:=by omega
    have hg:cs[n.toNat]? =some (cs.getD n.toNat default):=by simp [List.getD,ze K]
    refine⟨_,vF hu hk F,?_,rfl⟩
    rw [uC,Nat.mul_one]
    exact .pcp _ b _ _ (hS _ _ hg) (hV _ _ hg)
  rcases x with p|_|_|_|_|_|⟨id,ver⟩|_|_|_|_|_|_<;>first|exact fE s.boxes y|exact(L ⟨_,rfl⟩).elim|skip
  ·cases p<;>first|exact fE s.boxes y|skip
   rename_i es
   obtain⟨h1, -,D⟩:=ua y
   cases h1
   simp only [Bool.true_eq,Bool.and_eq_true,beq_iff_eq]at D
   obtain⟨D,H⟩:=D
   have F:=of_decide_eq_true D
   have E:es[n.toNat]? =some (es.getD n.toNat default):=by
    rw [List.getD_eq_getElem?_getD,ze za];rfl
   obtain⟨b,o,c,sz,f,rfl,hc,z,hS,hV⟩:=J.xT.elem E
   have N:sz=k:=by rw [<-z _ (List.mem_of_getElem? E)];exact H
   subst N
   refine⟨_,vF hu hk F,?_,rfl⟩
   rw [uC]
   exact .cptr _ b _ (λj=>f n.toNat j) (λj c W=>hS _ _ j c E W) (λj c W=>hV _ _ j c E W)
  ·obtain⟨T,r1,r2,h1,B,_⟩:=M.bind_some y
   obtain⟨Q,_,_⟩:=M.get_some h1
   cases T with
   |arr q G es=>
    by_cases l:ver=q∧e=G
    rotate_left
    ·simp only [l,if_false]at B;exact fE s.boxes B
    simp only [l,and_self,if_true]at B
    obtain⟨rfl,rfl⟩:=l
    obtain⟨D, -,H⟩:=ua B
    cases D
    have F:0<=n∧n<es.length:=of_decide_eq_true H.symm
    obtain⟨sz,xs,C,z,how,hf⟩:=h.xK Q J
    obtain⟨g,c,rfl⟩:=vk (how.wj za) za
    rw [hk]at z
    cases z
    refine⟨_,vF hu hk F,?_,rfl⟩
    rw [uC]
    refine .elt id ver n.toNat 0 _ _ rfl C λq G O hdr he=>?_
    cases he
    exact⟨EB _,λ_=>⟨g,_,c,rfl,zb⟩⟩
   |var _=>exact fE s.boxes B
   |dead=>exact fE s.boxes B
   |nest q G e2 ess hh=>
    by_cases l:ver=q∧e=G
    rotate_left
    ·simp only [l,if_false]at B;exact fE s.boxes B
    simp only [l,and_self,if_true]at B
    obtain⟨rfl,rfl⟩:=l
    obtain⟨D, -,H⟩:=ua B
    cases D
    have F:0<=n∧n<ess.length:=of_decide_eq_true H.symm
    obtain⟨xs,bs,k2,C,z,a7,how,a5,a6,K⟩:=h.Cq Q J
    obtain⟨g,c,rfl⟩:=vk (how.wj za) za
    rw [hk]at z
    cases z
    refine⟨_,vF hu hk F,?_,rfl⟩
    rw [uC]
    refine .elt id ver n.toNat 0 _ _ rfl C λq G O hdr he=>?_
    cases he
    exact⟨EB _,λ_=>⟨g,_,c,rfl,zb⟩⟩
  ·rename_i id ver lo I
   obtain⟨T,r1,r2,h1,B,_⟩:=M.bind_some y
   obtain⟨Q,_,_⟩:=M.get_some h1
   cases T with
   |arr q G es=>
    by_cases l:ver=q∧e=G
    rotate_left
    ·simp only [l,if_false]at B;exact fE s.boxes B
    simp only [l,and_self,if_true]at B
    obtain⟨rfl,rfl⟩:=l
    obtain⟨D, -,H⟩:=ua B
    cases D
    have F:0<=n∧n<(I:Int)-lo∧I<=es.length:=of_decide_eq_true H.symm
    obtain⟨sz,xs,hdr,C,z,how,hf,ho,hd⟩:=h.Ae Q J
    rw [hk]at z
    cases z
    rcases hd with⟨h5,_⟩|⟨g,m,c,rfl,h5,h6,rfl⟩
    ·omega
    refine⟨_,vF hu hk (n:=I-lo) za,?_,rfl⟩
    rw [uC]
    refine .elt id ver (lo+n.toNat) 0 _ _ rfl C λq G O hdr he=>?_
    cases he
    exact⟨EB _,λ_=>⟨g,_,c,rfl,by rw [Nat.add_mul];simp⟩⟩
   |var _=>exact fE s.boxes B
   |dead=>exact fE s.boxes B
   |nest _ _ _ _ _=>exact fE s.boxes B
 case array len e=>
  rcases i with p|_|_|_|_|_|_|_|_|_|_|_|_<;>first|exact fE s.boxes y|skip
  cases p<;>first|exact fE s.boxes y|skip
  rename_i ki n
  have e2:=hi.uo
  subst e2
  rcases hk:szT P e with _|k
  ·simp only [hk]at y;exact fE s.boxes y
  simp only [hk]at y
  obtain⟨_,r1,r2,h1,B,_⟩:=M.bind_some y
  obtain⟨-, -,D⟩:=M.tK h1
  have F:0<=n∧n<len:=of_decide_eq_true D.symm
  obtain⟨a,rfl,hr,Y,_⟩:=yz h B J
  refine⟨_,?_,hr,Y⟩
  simp [Instr.indexAt,asIntOf,run_underlying hu,F,tQ hk,Instr.sureAddr]
theorem DE(h:Sim P X S loc s tm w){t ty:TypeId}{x v:RV}{u:Ups}{r:List Nat}{J:Value}(y:Ar P t x s.boxes=some ((v,u),r,true))(C:R S loc x J):
  ∃v',(EM #[t] ty #[J]).run P w= .ok v' w∧R S loc v v'∧u=[]:=by
 unfold Ar at y
 rcases hu:P.underlying t with _|d
 ·simp only [hu]at y;exact fE s.boxes y
 rw [hu]at y
 cases d<;>first|exact fE s.boxes y|skip
 case string=>
  rcases x with p|_|_|_|_|_|_|_|_|_|_|_|_<;>first|exact fE s.boxes y|skip
  cases p<;>first|exact fE s.boxes y|skip
  rename_i l
  obtain⟨h1, -, -⟩:=tR y
  cases h1
  have L:=C.xZ
  subst L
  exact⟨_,run_len_string w t ty _ hu,by rw [A2];exact .d (.int _ _),rfl⟩
 case slice e=>
  by_cases E:∃cs,x= .plit cs
  ·obtain⟨cs,rfl⟩:=E
   obtain⟨h1, -, -⟩:=tR y
   cases h1
   cases C with
   |plit _ b o c f hc hS hV=>exact⟨goInt cs.length,by simp [EM,run_underlying hu],.d (.int _ _),rfl⟩
  rcases x with p|_|_|_|_|_|⟨id,ver⟩|_|_|_|_|_|_<;>first|exact fE s.boxes y|exact(E ⟨_,rfl⟩).elim|skip
  ·cases p<;>first|exact fE s.boxes y|skip
   rename_i es
   obtain⟨h1, -, -⟩:=tR y
   cases h1
   obtain⟨a,c,rfl,_⟩:=A1 C.xT
   exact⟨goInt es.length,by simp [EM,run_underlying hu],.d (.int _ _),rfl⟩
  ·obtain⟨h1, -, -⟩:=tR y
   cases h1
   cases C with
   |tC=>exact⟨goInt 0,by simp [EM,run_underlying hu],.d (.int _ _),rfl⟩
  ·obtain⟨H,r1,r2,h1,k,_⟩:=M.bind_some y
   obtain⟨G,_,_⟩:=M.get_some h1
   cases H with
   |arr q I es=>
    by_cases j:ver=q
    rotate_left
    ·simp only [j,if_false]at k;exact fE s.boxes k
    simp only [j,if_true]at k
    subst j
    obtain⟨D, -, -⟩:=tR k
    cases D
    obtain⟨sz,xs,B,F,how,hf⟩:=h.xK G C
    obtain⟨a,c,rfl,_⟩:=how.hdr
    exact⟨goInt es.length,by simp [EM,run_underlying hu],.d (.int _ _),rfl⟩
   |var _=>exact fE s.boxes k
   |dead=>exact fE s.boxes k
   |nest q I e2 ess hh=>
    by_cases j:ver=q
    rotate_left
    ·simp only [j,if_false]at k;exact fE s.boxes k
    simp only [j,if_true]at k
    subst j
    obtain⟨D, -, -⟩:=tR k
    cases D
    obtain⟨xs,bs,k2,B,F,Y,how,T,W,Q⟩:=h.Cq G C
    obtain⟨a,c,rfl,_⟩:=how.hdr
    exact⟨goInt ess.length,by simp [EM,run_underlying hu],.d (.int _ _),rfl⟩
  ·rename_i id ver lo z
   obtain⟨H,r1,r2,h1,k,_⟩:=M.bind_some y
   obtain⟨G,_,_⟩:=M.get_some h1
   cases H with
   |arr q I es=>
    by_cases j:ver=q
    rotate_left
    ·simp only [j,if_false]at k;exact fE s.boxes k
    simp only [j,if_true]at k
    subst j
    obtain⟨D, -,N⟩:=ua k
    cases D
    have hn:lo<=z∧z<=es.length:=of_decide_eq_true N.symm
    obtain⟨sz,xs,hdr,B,F,how,hf,ho,O⟩:=h.Ae G C
    have K:((z:Int)-lo)=((z-lo:Nat):Int):=by omega
    rw [K]
    rcases O with⟨rfl,a,rfl⟩|⟨g,m,c,rfl,h5,h6,rfl⟩
    ·exact⟨goInt 0,by simp [EM,run_underlying hu],by rw [Nat.sub_self];exact .d (.int _ _),rfl⟩
    ·exact⟨goInt (z-lo:Nat),by simp [EM,run_underlying hu],.d (.int _ _),rfl⟩
   |var _=>exact fE s.boxes k
   |dead=>exact fE s.boxes k
   |nest _ _ _ _ _=>exact fE s.boxes k
end
end Go.Dw
