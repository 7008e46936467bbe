
import Derived.Test.YthadlbjoiidkjaaGreatDoorDwLoad
import Derived.MapKept

namespace Go.Dw
section
variable {P:Program}{X:Ctx}{S:pR}{loc:qe}{s:St}{tm:Array Value}{w:World}
theorem vj(h:Sim P X S loc s tm w){off:Nat}{x v:RV}{u:Ups}{r:List Nat}{vx:Value}(hl:vg off x s.boxes=some ((v,u),r,true))(hx:R S loc x vx):
  ∃a:Addr,vx= .pointer (some a)∧R S loc v (.pointer (some (a.add off)))∧u=[]∧a.spot=none:=by
 cases x with
 |cptr cs=>
  replace hl:qu (.cptr (cs.drop off)) s.boxes=some ((v,u),r,true):=hl
  obtain⟨h1, -, -⟩:=pQ hl
  cases h1
  cases hx with
  |cptr _ b o f hS hV=>
   refine⟨_,rfl,?_,rfl,rfl⟩
   rw [rH]
   refine .cptr _ b (o+off) (fun j=>f (off+j)) (fun j c hj=>?_) (fun j c hj=>?_)
   ·rw [List.getElem?_drop]at hj
    have:=hS _ c hj
    rwa [<-Nat.add_assoc]at this
   ·rw [List.getElem?_drop]at hj
    exact hV _ c hj
 |ptr id o=>
  obtain⟨bx,r1,r2,h1,h2,_⟩:=M.bind_some hl
  obtain⟨hb,_,_⟩:=M.get_some h1
  cases bx with
  |var cs=>
   obtain⟨h3, -, -⟩:=pQ h2
   cases h3
   obtain⟨b,ty,vs,hloc,rfl,hw,hlen,hv⟩:=h.zN hb hx
   refine⟨_,rfl,?_,rfl,rfl⟩
   rw [rH]
   exact .ptr id (o+off) _ _ rfl hloc fun b'=>⟨(fun he=>by cases he;rfl),(fun he=>by cases he)⟩
  |arr _ _ _=>exact fE s.boxes h2
  |dead=>exact fE s.boxes h2
  |map _ _ _=>exact fE s.boxes h2
 |elt id ver i o=>
  obtain⟨bx,r1,r2,h1,h2,_⟩:=M.bind_some hl
  obtain⟨hb,_,_⟩:=M.get_some h1
  cases bx with
  |arr ver' e es=>
   by_cases hver:ver=ver'
   rotate_left
   ·simp only [hver,if_false]at h2;exact fE s.boxes h2
   simp only [hver,if_true]at h2
   subst hver
   obtain⟨h3, -, -⟩:=pQ h2
   cases h3
   obtain⟨sz,xs,g,n,c,hloc,rfl,hsz,how,hf⟩:=h.AU hb hx
   refine⟨_,rfl,?_,rfl,rfl⟩
   rw [rH]
   refine .elt id ver i (o+off) _ _ rfl hloc fun ver' e' sz' hdr he=>?_
   cases he
   exact⟨Nat.le_refl _,fun _=>⟨g,n,c,rfl,by rw [Nat.add_assoc]⟩⟩
  |var _=>exact fE s.boxes h2
  |dead=>exact fE s.boxes h2
  |map _ _ _=>exact fE s.boxes h2
 |d p=>exact fE s.boxes hl
 |undef=>exact fE s.boxes hl
 |junk=>exact fE s.boxes hl
 |mo=>exact fE s.boxes hl
 |agg cs=>exact fE s.boxes hl
 |tup cs=>exact fE s.boxes hl
 |ref a b=>exact fE s.boxes hl
 |view a b c d=>exact fE s.boxes hl
 |clo a b=>exact fE s.boxes hl
 |fview _ _ _=>exact fE s.boxes hl
 |err _=>exact fE s.boxes hl
 |dfull _=>exact fE s.boxes hl
 |ifc _ _=>exact fE s.boxes hl
theorem vN{t:TypeId}{f off:Nat}{ft:TypeId}(h:uk P t f=some (off,ft)):∃fs x,P.underlying t=some (.struct fs)∧fs[f]? =some x∧x.offset=off∧x.type=ft:=by
 unfold uk at h
 split at h
 ·rename_i fs hu
  split at h
  ·rename_i x hx
   simp only [Option.some.injEq,Prod.mk.injEq]at h
   exact⟨fs,x,hu,hx,h.1,h.2⟩
  ·cases h
 ·cases h
theorem wW(h:Sim P X S loc s tm w){t:TypeId}{f:Nat}{x v:RV}{u:Ups}{r:List Nat}{vx:Value}(hl:rN P t x f s.boxes=some ((v,u),r,true))(hx:R S loc x vx):
  ∃v',(Instr.fieldAt t vx f).run P w= .ok v' w∧R S loc v v'∧u=[]:=by
 unfold rN at hl
 rcases hf:uk P t f with _|⟨off,ft⟩
 ·simp only [hf]at hl;exact fE s.boxes hl
 simp only [hf]at hl
 rcases hk:szT P ft with _|_|k
 ·simp only [hk]at hl;exact fE s.boxes hl
 ·simp only [hk]at hl;exact fE s.boxes hl
 simp only [hk]at hl
 obtain⟨a,rfl,hr,hu,_⟩:=vj h hl hx
 obtain⟨fs,fl,h1,h2,rfl,rfl⟩:=vN hf
 refine⟨_,?_,hr,hu⟩
 simp [Instr.fieldAt,run_underlying h1,h2,Instr.sureAddr,fieldPlace,pS hk]
theorem zo{t:TypeId}{f:Nat}{x v:RV}{b:p8}{u:Ups}{r:List Nat}{vx:Value}(hl:vU P t x f b=some ((v,u),r,true))(hx:R S loc x vx):
  ∃v',(Instr.field t vx f).run P w= .ok v' w∧R S loc v v'∧u=[]:=by
 unfold vU at hl
 rcases hf:uk P t f with _|⟨off,ft⟩
 ·simp only [hf]at hl;exact fE b hl
 rcases hc:ug x with _|cs
 ·simp only [hf,hc]at hl;exact fE b hl
 simp only [hf,hc]at hl
 obtain⟨vs,rfl,hlen,hv⟩:=uW hc hx
 obtain⟨fs,fl,h1,h2,rfl,rfl⟩:=vN hf
 obtain⟨v',h3,h4,h5⟩:=xE (P:=P) (w:=w) hl hlen hv
 exact⟨v',by simp [Instr.field,run_underlying h1,h2,asAgg,h3],h4,h5⟩
theorem qU{t e:TypeId}(h:rf P t=some e):P.underlying t=some (.slice e):=by
 unfold rf at h
 split at h<;>simp_all
theorem zt{t:TypeId}{x i v:RV}{b:p8}{u:Ups}{r:List Nat}{vx vi:Value}(hl:u6 P t x i b=some ((v,u),r,true))(hx:R S loc x vx)(hi:R S loc i vi):
  ∃v',(Instr.index t vx vi).run P w= .ok v' w∧R S loc v v'∧u=[]:=by
 unfold u6 at hl
 rcases hu:P.underlying t with _|ty
 ·simp only [hu]at hl;exact fE b hl
 rw [hu]at hl
 cases ty<;>first|exact fE b hl|skip
 ·simp only [vW]at hl
  rcases x with p|_|_|_|_|_|_|_|_|_|_|_|_<;>first|exact fE b hl|skip
  cases p<;>first|exact fE b hl|skip
  rename_i l
  rcases i with p|_|_|_|_|_|_|_|_|_|_|_|_<;>first|exact fE b hl|skip
  cases p<;>first|exact fE b hl|skip
  rename_i k n
  obtain⟨h1, -,h3⟩:=qi hl
  cases h1
  have hn:0<=n∧n<l.length:=of_decide_eq_true h3.symm
  have e1:=hx.uM
  have e2:=hi.p9
  subst e1;subst e2
  refine⟨_,?_,.d (.int _ _),rfl⟩
  rw [run_index_string w t _ k n hu,dif_pos (by rw [xO];exact hn)]
  have hlt:n.toNat<l.length:=by omega
  simp [hlt]
  rfl
 ·rename_i len e
  simp only [wZ]at hl
  rcases hc:ug x with _|cs
  ·simp only [hc]at hl;exact fE b hl
  rw [hc]at hl
  rcases i with p|_|_|_|_|_|_|_|_|_|_|_|_<;>first|exact fE b hl|skip
  cases p<;>first|exact fE b hl|skip
  rename_i k n
  rcases hk:szT P e with _|m
  ·simp only [hk]at hl;exact fE b hl
  simp only [hk]at hl
  obtain⟨⟨⟩,r1,r2,h1,h2,_⟩:=M.bind_some hl
  obtain⟨-, -,h3⟩:=M.pN h1
  have hn:0<=n∧n<len:=of_decide_eq_true h3.symm
  have e2:=hi.p9
  subst e2
  obtain⟨vs,rfl,hlen,hv⟩:=uW hc hx
  obtain⟨v',h4,h5,h6⟩:=xE (P:=P) (w:=w) h2 hlen hv
  refine⟨v',?_,h5,h6⟩
  simp [Instr.index,asIntOf,run_underlying hu,hn.1,hn.2,pS hk,h4]
theorem xN{es:List PD}{v:Value}(h:V S (.lst es) v):∃a c,v= .slice a es.length c∧es.length<=c:=by
 generalize hp:PD.lst es=p at h
 cases h with
 |nil a c=>cases hp;exact⟨a,c,rfl,Nat.zero_le _⟩
 |lst es' b o c sz f hc hsz hS hV=>cases hp;exact⟨_,c,rfl,hc⟩
 |bool _=>cases hp
 |int _ _=>cases hp
 |str _=>cases hp
 |raw _ _=>cases hp
 |agg _ _ _ _=>cases hp
theorem V.elem{es:List PD}{v:Value}(h:V S (.lst es) v){i:Nat}{e:PD}(he:es[i]? =some e):
  ∃(b o c sz:Nat)(f:Nat->Nat->Value),v= .slice (some ⟨b,o,none⟩) es.length c∧es.length<=c∧(∀e∈es,e.cells.length=sz)∧
   (∀(i:Nat)e(j:Nat)x,es[i]? =some e->e.cells[j]? =some x->S ⟨b,o+i*sz+j,none⟩=some (f i j))∧
   (∀(i:Nat)e(j:Nat)x,es[i]? =some e->e.cells[j]? =some x->V S x (f i j)):=by
 generalize hp:PD.lst es=p at h
 cases h with
 |nil a c=>cases hp;simp at he
 |lst es' b o c sz f hc hsz hS hV=>cases hp;exact⟨b,o,c,sz,f,rfl,hc,hsz,hS,hV⟩
 |bool _=>cases hp
 |int _ _=>cases hp
 |str _=>cases hp
 |raw _ _=>cases hp
 |agg _ _ _ _=>cases hp
theorem tZ{t e:TypeId}{k:Nat}(hu:P.underlying t=some (.slice e))(hk:szT P e=some k){a:Addr}{n:Nat}{c:Nat}{ki:IntKind}{i:Int}(h:0<=i∧i<n):
  (Instr.indexAt t (.slice (some a) n c) (.int ki i)).run P w= .ok (.pointer (some (a.add (i.toNat*k)))) w:=by
 simp [Instr.indexAt,asIntOf,run_underlying hu,h,pS hk]
theorem ta{e sz n:Nat}{v:Value}{xs:List Value}(h:rA w e sz v n xs)(hn:0<n):∃g c,v= .slice (some ⟨g,0,none⟩) n c:=by
 rcases h.2 with⟨_,h0⟩|⟨g,cap,cur,_,rfl,_⟩
 ·omega
 ·exact⟨g,cap,rfl⟩
theorem w5(h:Sim P X S loc s tm w){t:TypeId}{x i v:RV}{u:Ups}{r:List Nat}{vx vi:Value}(hl:qI P t x i s.boxes=some ((v,u),r,true))(hx:R S loc x vx)(hi:R S loc i vi):
  ∃v',(Instr.indexAt t vx vi).run P w= .ok v' w∧R S loc v v'∧u=[]:=by
 unfold qI at hl
 rcases hu:P.underlying t with _|ty
 ·simp only [hu]at hl;exact fE s.boxes hl
 rw [hu]at hl
 cases ty<;>first|exact fE s.boxes hl|skip
 case slice e=>
  rcases i with p|_|_|_|_|_|_|_|_|_|_|_|_<;>first|exact fE s.boxes hl|skip
  cases p<;>first|exact fE s.boxes hl|skip
  rename_i ki n
  have e2:=hi.p9
  subst e2
  rcases hk:szT P e with _|k
  ·simp only [hk]at hl;exact fE s.boxes hl
  simp only [hk]at hl
  rcases x with p|_|_|_|_|_|⟨id,ver⟩|_|_|_|_|_|_<;>first|exact fE s.boxes hl|skip
  ·cases p<;>first|exact fE s.boxes hl|skip
   rename_i es
   obtain⟨h1, -,h3⟩:=qi hl
   cases h1
   simp only [Bool.true_eq,Bool.and_eq_true,beq_iff_eq]at h3
   obtain⟨h3,h4⟩:=h3
   have hn:=of_decide_eq_true h3
   have hget:es[n.toNat]? =some (es.getD n.toNat default):=by
    rw [List.getD_eq_getElem?_getD,zd za];rfl
   obtain⟨b,o,c,sz,f,rfl,hc,hsz,hS,hV⟩:=hx.uG.elem hget
   have hszk:sz=k:=by rw [<-hsz _ (List.mem_of_getElem? hget)];exact h4
   subst hszk
   refine⟨_,tZ hu hk hn,?_,rfl⟩
   rw [rH]
   exact .cptr _ b _ (fun j=>f n.toNat j) (fun j c hj=>hS _ _ j c hget hj) (fun j c hj=>hV _ _ j c hget hj)
  ·obtain⟨bx,r1,r2,h1,h2,_⟩:=M.bind_some hl
   obtain⟨hb,_,_⟩:=M.get_some h1
   cases bx with
   |arr ver' e' es=>
    by_cases hver:ver=ver'∧e=e'
    rotate_left
    ·simp only [hver,if_false]at h2;exact fE s.boxes h2
    simp only [hver,and_self,if_true]at h2
    obtain⟨rfl,rfl⟩:=hver
    obtain⟨h3, -,h4⟩:=qi h2
    cases h3
    have hn:0<=n∧n<es.length:=of_decide_eq_true h4.symm
    obtain⟨sz,xs,hloc,hsz,how,hf⟩:=h.tW hb hx
    obtain⟨g,c,rfl⟩:=ta (how.xc za) za
    rw [hk]at hsz
    cases hsz
    refine⟨_,tZ hu hk hn,?_,rfl⟩
    rw [rH]
    refine .elt id ver n.toNat 0 _ _ rfl hloc fun ver' e' sz' hdr he=>?_
    cases he
    exact⟨Nat.le_refl _,fun _=>⟨g,_,c,rfl,sm⟩⟩
   |var _=>exact fE s.boxes h2
   |dead=>exact fE s.boxes h2
   |map _ _ _=>exact fE s.boxes h2
  ·rename_i id ver lo hi'
   obtain⟨bx,r1,r2,h1,h2,_⟩:=M.bind_some hl
   obtain⟨hb,_,_⟩:=M.get_some h1
   cases bx with
   |arr ver' e' es=>
    by_cases hver:ver=ver'∧e=e'
    rotate_left
    ·simp only [hver,if_false]at h2;exact fE s.boxes h2
    simp only [hver,and_self,if_true]at h2
    obtain⟨rfl,rfl⟩:=hver
    obtain⟨h3, -,h4⟩:=qi h2
    cases h3
    have hn:0<=n∧n<(hi':Int)-lo∧hi'<=es.length:=of_decide_eq_true h4.symm
    obtain⟨sz,xs,hdr,hloc,hsz,how,hf,ho,hd⟩:=h.wR hb hx
    rw [hk]at hsz
    cases hsz
    rcases hd with⟨h5,_⟩|⟨g,m,c,rfl,h5,h6,rfl⟩
    ·omega
    refine⟨_,tZ hu hk (n:=hi'-lo) za,?_,rfl⟩
    rw [rH]
    refine .elt id ver (lo+n.toNat) 0 _ _ rfl hloc fun ver' e' sz' hdr he=>?_
    cases he
    exact⟨Nat.le_refl _,fun _=>⟨g,_,c,rfl,by rw [Nat.add_mul];simp⟩⟩
   |var _=>exact fE s.boxes h2
   |dead=>exact fE s.boxes h2
   |map _ _ _=>exact fE s.boxes h2
 case array len e=>
  rcases i with p|_|_|_|_|_|_|_|_|_|_|_|_<;>first|exact fE s.boxes hl|skip
  cases p<;>first|exact fE s.boxes hl|skip
  rename_i ki n
  have e2:=hi.p9
  subst e2
  rcases hk:szT P e with _|k
  ·simp only [hk]at hl;exact fE s.boxes hl
  simp only [hk]at hl
  obtain⟨_,r1,r2,h1,h2,_⟩:=M.bind_some hl
  obtain⟨-, -,h3⟩:=M.pN h1
  have hn:0<=n∧n<len:=of_decide_eq_true h3.symm
  obtain⟨a,rfl,hr,hu',_⟩:=vj h h2 hx
  refine⟨_,?_,hr,hu'⟩
  simp [Instr.indexAt,asIntOf,run_underlying hu,hn,pS hk,Instr.sureAddr]
theorem Sim.A5(h:Sim P X S loc s tm w){id:Nat}{kt vt:TypeId}{es:List (PD×PD)}{v:Value}(hb:s.boxes id=some (.map kt vt es))(hr:R S loc (.ptr id 0) v):
  ∃b clock ents,loc id=some (.map b)∧v= .map (some b)∧w.heap[b]? =some (.map ents clock)∧ents.size=es.length∧
   ∀(i:Nat)k x en,es[i]? =some (k,x)->ents[i]? =some en->V S k en.key∧V S x en.val:=by
 obtain⟨L,hL,hbx⟩:=h.boxes id _ hb
 cases hr with
 |ptr _ _ _ L' _ hL' hv=>
  rw [hL]at hL'
  cases hL'
  cases hbx with
  |map _ _ _ b clock ents hw hl hc=>exact⟨b,clock,ents,hL,(hv b).2 .map,hw,hl,hc⟩
theorem A4(h:Sim P X S loc s tm w){t ty:TypeId}{x v:RV}{u:Ups}{r:List Nat}{vx:Value}(hl:lenD P t x s.boxes=some ((v,u),r,true))(hx:R S loc x vx):
  ∃v',(Builtin.len_ #[t] ty #[vx]).run P w= .ok v' w∧R S loc v v'∧u=[]:=by
 unfold lenD at hl
 rcases hu:P.underlying t with _|d
 ·simp only [hu]at hl;exact fE s.boxes hl
 rw [hu]at hl
 cases d<;>first|exact fE s.boxes hl|skip
 case map kt vt=>
  rcases x with p|_|_|_|_|_|_|⟨id,off⟩|_|_|_|_|_<;>first|exact fE s.boxes hl|skip
  cases off<;>first|exact fE s.boxes hl|skip
  obtain⟨bx,r1,r2,h1,h2,_⟩:=M.bind_some hl
  obtain⟨hb,_,_⟩:=M.get_some h1
  cases bx<;>first|exact fE s.boxes h2|skip
  rename_i kt' vt' es
  obtain⟨h3, -, -⟩:=pQ h2
  cases h3
  obtain⟨b,clock,ents,_,rfl,hw,hl2,_⟩:=h.A5 hb hx
  refine⟨goInt ents.size,?_,?_,rfl⟩
  ·simp [Builtin.len_,run_underlying hu,MapKept.run_getObj_map hw,Result.andThen]
  ·rw [hl2];exact .d (.int _ _)
 case string=>
  rcases x with p|_|_|_|_|_|_|_|_|_|_|_|_<;>first|exact fE s.boxes hl|skip
  cases p<;>first|exact fE s.boxes hl|skip
  rename_i l
  obtain⟨h1, -, -⟩:=pQ hl
  cases h1
  have e1:=hx.uM
  subst e1
  exact⟨_,run_len_string w t ty _ hu,by rw [xO];exact .d (.int _ _),rfl⟩
 case slice e=>
  rcases x with p|_|_|_|_|_|⟨id,ver⟩|_|_|_|_|_|_<;>first|exact fE s.boxes hl|skip
  ·cases p<;>first|exact fE s.boxes hl|skip
   rename_i es
   obtain⟨h1, -, -⟩:=pQ hl
   cases h1
   obtain⟨a,c,rfl,_⟩:=xN hx.uG
   exact⟨goInt es.length,by simp [Builtin.len_,run_underlying hu],.d (.int _ _),rfl⟩
  ·obtain⟨h1, -, -⟩:=pQ hl
   cases h1
   cases hx with
   |mo=>exact⟨goInt 0,by simp [Builtin.len_,run_underlying hu],.d (.int _ _),rfl⟩
  ·obtain⟨bx,r1,r2,h1,h2,_⟩:=M.bind_some hl
   obtain⟨hb,_,_⟩:=M.get_some h1
   cases bx with
   |arr ver' e' es=>
    by_cases hver:ver=ver'
    rotate_left
    ·simp only [hver,if_false]at h2;exact fE s.boxes h2
    simp only [hver,if_true]at h2
    subst hver
    obtain⟨h3, -, -⟩:=pQ h2
    cases h3
    obtain⟨sz,xs,hloc,hsz,how,hf⟩:=h.tW hb hx
    obtain⟨a,c,rfl,_⟩:=how.hdr
    exact⟨goInt es.length,by simp [Builtin.len_,run_underlying hu],.d (.int _ _),rfl⟩
   |var _=>exact fE s.boxes h2
   |dead=>exact fE s.boxes h2
   |map _ _ _=>exact fE s.boxes h2
  ·rename_i id ver lo hi'
   obtain⟨bx,r1,r2,h1,h2,_⟩:=M.bind_some hl
   obtain⟨hb,_,_⟩:=M.get_some h1
   cases bx with
   |arr ver' e' es=>
    by_cases hver:ver=ver'
    rotate_left
    ·simp only [hver,if_false]at h2;exact fE s.boxes h2
    simp only [hver,if_true]at h2
    subst hver
    obtain⟨h3, -,h4⟩:=qi h2
    cases h3
    have hn:lo<=hi'∧hi'<=es.length:=of_decide_eq_true h4.symm
    obtain⟨sz,xs,hdr,hloc,hsz,how,hf,ho,hd⟩:=h.wR hb hx
    have e0:((hi':Int)-lo)=((hi'-lo:Nat):Int):=by omega
    rw [e0]
    rcases hd with⟨rfl,a,rfl⟩|⟨g,m,c,rfl,h5,h6,rfl⟩
    ·exact⟨goInt 0,by simp [Builtin.len_,run_underlying hu],by rw [Nat.sub_self];exact .d (.int _ _),rfl⟩
    ·exact⟨goInt (hi'-lo:Nat),by simp [Builtin.len_,run_underlying hu],.d (.int _ _),rfl⟩
   |var _=>exact fE s.boxes h2
   |dead=>exact fE s.boxes h2
   |map _ _ _=>exact fE s.boxes h2
end
end Go.Dw
