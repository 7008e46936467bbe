
import Derived.Test.YtfmoipelhfkdkaaGreatDoorDwCopy
import Derived.Test.YtfmoipelhfkdkaaGreatDoorDwEq
import Derived.MapKept
open Go.Result renaming andThen->E5
open Bool renaming and_eq_true->D6, false_eq_true->Dr
open Option.some renaming injEq->DB

namespace Go.Dw
section
variable {P:Program}{X:Ctx}{S:rC}{loc:sf}{s:St}{tm:Array Value}{w:World}
theorem Aj(h:Sim P X S loc s tm w){id:Nat}{t:TypeId}{v:RV}{u:Ups}{r:List Nat}(hl:vr P id t s.boxes=some ((v,u),r,true)):
  ∃v' w' loc',(Instr.makeMap t none).run P w= .ok v' w'∧Sim P X S loc' (s.ups u) tm w'∧R S loc' v v':=by
 unfold vr at hl
 rcases hu:P.underlying t with _|d0
 ·simp only [hu]at hl;exact fE s.boxes hl
 rw [hu]at hl
 cases d0<;>first|exact fE s.boxes hl|skip
 ·rename_i C D
  obtain⟨_,F,G,h1,q,_⟩:=M.bind_some hl
  obtain⟨g,_,_⟩:=M.su h1
  obtain⟨B, -, -⟩:=M.qw q
  cases B
  have f:=h.rX g
  have j:rP (loc id) (.map w.heap.size):=by rw [f];trivial
  refine⟨.map (some w.heap.size),w.alloc (.map #[] 0),upd loc id (.map w.heap.size),by simp [Instr.makeMap],?_,?_⟩
  ·refine h.sq (Step.alloc w _) id _ _ (fun b hc=>by cases hc) ?_ ?_ j
   ·exact .map C D [] w.heap.size 0 #[] (heap_alloc_new w _) rfl (fun i k x E h1 _=>by simp at h1)
   ·intro b g;cases g;exact .inr (.inl (Nat.le_refl _))
  ·exact .ptr id 0 _ (.map w.heap.size) rfl (ru _ _ _) (fun b=>⟨(fun he=>by cases he),(fun he=>by cases he;rfl)⟩)
theorem xM:∀(d n:Nat)(e:Bool)(t:TypeId)(k:PD)(E:Value),vq P d t k=true->V S k E->(Instr.checkKey e (n+d) t E).run P w= .ok () w
 |0,_,_,_,_,_,h,_=>by simp [vq]at h
 |d+1,n,e,t,k,E,h,B=>by
  simp only [vq]at h
  rw [show n+(d+1)=(n+d)+1 by omega]
  unfold Instr.checkKey
  split at h
  ·rename_i q I m hu
   cases B
   simp [run_underlying hu]
  ·rename_i hu
   cases B
   simp [run_underlying hu]
  ·rename_i hu
   cases B
   simp [run_underlying hu]
  ·rename_i F cs hu
   obtain⟨vs,rfl,hl,hc⟩:=B.uk
   simp only [Sem.run_bind,run_underlying hu,E5]
   have D : ∀ (l : List Field), (l.all fun f => f.name != "_" && (match vZ P f.type cs f.offset with | some p => vq P d f.type p | none => false)) = true →
     (forIn l PUnit.unit fun (f : Field) (_ : PUnit) => (do if f.name ≠ "_" then (do Instr.checkKey e (n + d) f.type (← part f.type vs f.offset); pure (.yield PUnit.unit)) else pure (.yield PUnit.unit) : Sem (ForInStep PUnit))).run P w = .ok PUnit.unit w := by
    intro l j
    induction l with
    |nil=>simp
    |cons f r H=>
     simp only [List.all_cons,D6]at j
     obtain⟨⟨h1,u⟩,G⟩:=j
     rcases hp:vZ P f.type cs f.offset with _|p
     ·rw [hp]at u;cases u
     rw [hp]at u
     obtain⟨v',g1,g2⟩:=uT (P:=P) (S:=S) (w:=w) hp hl hc
     have g3:=xM d n e f.type p v' u g2
     have C : f.name ≠ "_" := by simpa using h1
     simp only [List.forIn_cons,Sem.run_bind,C,ne_eq,not_false_eq_true,if_true,g1,E5,g3]
     simpa [Sem.run_bind,E5]using H G
   have g:=D F.toList h
   simp only [<-Array.forIn_toList]
   simp only [ne_eq,ite_not]at g⊢
   simp only [bind_pure_comp]at g⊢
   rw [g]
   simp
  ·cases h
theorem Aq{a b:PD}{va vb:Value}(h:wE a b=true)(f:V S a va)(g:V S b vb):va=vb∧∀n,Instr.sameBits n va va=true:=by
 unfold wE at h
 split at h
 ·cases f;cases g
  simp only [D6,decide_eq_true_eq]at h
  obtain⟨rfl,rfl⟩:=h
  exact⟨rfl,fun n=>by cases n<;>simp [Instr.sameBits]⟩
 ·cases f;cases g
  simp only [decide_eq_true_eq]at h
  subst h
  exact⟨rfl,fun n=>by cases n<;>simp [Instr.sameBits,MapKept.bytes_beq]⟩
 ·cases f;cases g
  simp only [decide_eq_true_eq]at h
  subst h
  exact⟨rfl,fun n=>by cases n<;>simp [Instr.sameBits]⟩
 ·cases h
theorem Ar:∀{a b:List PD}{va vb:List Value},wF a b=true->va.length=a.length->vb.length=b.length->(∀(i:Nat)p v,a[i]? =some p->va[i]? =some v->V S p v)->(∀(i:Nat)p v,b[i]? =some p->vb[i]? =some v->V S p v)->va=vb∧∀n,∀v∈va,Instr.sameBits n v v=true
 | [],[],va,vb,_,h1,f,_,_=>by
  cases va<;>cases vb<;>first|exact⟨rfl,fun _ _ h=>by cases h⟩|simp at h1 f
 | [],_::_,_,_,h,_,_,_,_=>by simp [wF]at h
 |_::_,[],_,_,h,_,_,_,_=>by simp [wF]at h
 |a::r,b::q,va,vb,h,h1,f,j,k=>by
  simp only [wF,D6]at h
  cases va with
  |nil=>simp at h1
  |cons x va=>
  cases vb with
  |nil=>simp at f
  |cons y vb=>
  obtain⟨u,e2⟩:=Aq h.1 (j 0 a x rfl rfl) (k 0 b y rfl rfl)
  obtain⟨B,C⟩:=Ar h.2 (by simpa using h1) (by simpa using f) (fun i p v g1 g2=>j (i+1) p v g1 g2) (fun i p v g1 g2=>k (i+1) p v g1 g2)
  subst u;subst B
  refine⟨rfl,fun n v g=>?_⟩
  cases g with
  |head=>exact e2 n
  |tail _ g=>exact C n v g
theorem Di{a b:PD}{va vb:Value}(h:xe a b=true)(g:V S a va)(j:V S b vb):va=vb∧Instr.sameBits 10000 va va=true:=by
 unfold xe at h
 split at h
 ·obtain⟨xs,rfl,h1,q⟩:=g.uk
  obtain⟨k,rfl,r,u⟩:=j.uk
  obtain⟨f,e2⟩:=Ar (va:=xs.toList) (vb:=k.toList) h (by simpa using h1) (by simpa using r) (fun i p v g1 g2=>q i p v g1 (by simpa using g2)) (fun i p v g1 g2=>u i p v g1 (by simpa using g2))
  have f:xs=k:=Array.toList_inj.1 f
  subst f
  refine⟨rfl,?_⟩
  show Instr.sameBits (9999+1) _ _=true
  have:∀l:List Value,(∀v∈l,Instr.sameBits 9999 v v=true)->((l.zip l).all fun(x,y)=>Instr.sameBits 9999 x y)=true:=by
   intro l hl
   induction l with
   |nil=>rfl
   |cons v l C=>simp only [List.zip_cons_cons,List.all_cons,hl v (.head _),Bool.true_and];exact C fun x B=>hl x (.tail _ B)
  simp [Instr.sameBits,this xs.toList (e2 9999)]
 ·obtain⟨f,e2⟩:=Aq h g j
  exact⟨f,e2 10000⟩
theorem BR{t:TypeId}{d:TypeDesc}(hu:P.underlying t=some d){k x:PD}{j r:Value}(hk:ur P t k=true)(h1:V S k j)(g:V S x r){b:Bool}(hs:vE k x=some b):Instr.sameNow d j r=some b:=by
 unfold ur at hk
 simp only [vq]at hk
 split at hk
 ·rename_i q u n f
  rw [hu]at f
  cases f
  have:=of_decide_eq_true hk
  subst this
  cases h1
  cases x<;>simp only [vE]at hs<;>first|(cases hs;done)|skip
  cases g
  exact hs
 ·rename_i f
  rw [hu]at f
  cases f
  cases h1
  cases x<;>simp only [vE]at hs<;>first|(cases hs;done)|skip
  cases g
  rename_i a
  simp only [Instr.sameNow,DB]at hs⊢
  rw [<-hs,Bool.eq_iff_iff,MapKept.bytes_beq]
  simp
 ·rename_i f
  rw [hu]at f
  cases f
  cases h1
  cases x<;>simp only [vE]at hs<;>first|(cases hs;done)|skip
  cases g
  exact hs
 ·cases x<;>cases hs
 ·cases hk
def Found(S:rC)(es:List (PD×PD))(f:List MapEntry)(i:Nat)(r:Option (Nat×PD×PD))(k:Option (Nat×Value)):Prop:=
 r=none∧k=none∨∃j x y v,r=some (i+j,x,y)∧k=some (i+j,v)∧j<es.length∧V S y v∧∃g,f[j]? =some g∧V S x g.key
theorem Found.cons{es:List (PD×PD)}{f:List MapEntry}{i:Nat}{r:Option (Nat×PD×PD)}{k:Option (Nat×Value)}(h:Found S es f (i+1) r k)(e:PD×PD)(D:MapEntry):Found S (e::es) (D::f) i r k:=by
 rcases h with h|⟨j,x,y,v,q,e2,E,u,g,B,C⟩
 ·exact .inl h
 ·exact .inr ⟨j+1,x,y,v,by rw [q];congr 2;omega,by rw [e2];congr 2;omega,so,u,g,B,C⟩
theorem BN{t:TypeId}{d:TypeDesc}(hu:P.underlying t=some d){k:PD}{E:Value}(hk:ur P t k=true)(B:vN k=false)(h1:V S k E):∀(es:List (PD×PD))(f:List MapEntry)(i:Nat){r:Option (Nat×PD×PD)},f.length=es.length->
  (∀(j:Nat)k x q,es[j]? =some (k,x)->f[j]? =some q->V S k q.key∧V S x q.val)->te P t k es i=some r->
  ∃u,Instr.findNow d E f i=some u∧Found S es f i r u
 | [],[],i,r,_,_,g=>by
  simp only [te,DB]at g
  subst g
  exact⟨none,rfl,.inl ⟨rfl,rfl⟩⟩
 | [],_::_,_,_,hl,_,_=>by simp at hl
 |_::_,[],_,_,hl,_,_=>by simp at hl
 |(x,v)::es,q::f,i,r,hl,hc,g=>by
  obtain⟨a1,a2⟩:=hc 0 x v q rfl rfl
  simp only [te,Ah,B]at g
  cases D:vN x with
  |true=>simp [D]at g
  |false=>
  simp only [D]at g
  cases hs:vE k x with
  |none=>simp [hs]at g
  |some b=>
   have C:=BR hu hk h1 a1 hs
   cases b with
   |true=>
    simp only [hs,DB]at g
    subst g
    exact⟨some (i,q.val),by simp only [Instr.findNow,C],.inr ⟨0,x,v,q.val,rfl,rfl,zc,a2,q,rfl,a1⟩⟩
   |false=>
    simp only [hs]at g
    obtain⟨u,g1,g2⟩:=BN hu hk B h1 es f (i+1) (by simpa using hl) (fun j k x q h1 F=>hc (j+1) k x q h1 F) g
    exact⟨u,by simp only [Instr.findNow,C];exact g1,g2.cons _ _⟩
theorem BM{t:TypeId}{k:PD}{B:Value}(C:vN k=true)(h1:V S k B):∀(es:List (PD×PD))(f:List MapEntry)(i:Nat){r:Option (Nat×PD×PD)},f.length=es.length->
  (∀(j:Nat)k x g,es[j]? =some (k,x)->f[j]? =some g->V S k g.key∧V S x g.val)->te P t k es i=some r->
  ∃u,(Instr.findAsking t B f i).run P w= .ok u w∧Found S es f i r u
 | [],[],i,r,_,_,q=>by
  simp only [te,DB]at q
  subst q
  exact⟨none,rfl,.inl ⟨rfl,rfl⟩⟩
 | [],_::_,_,_,hl,_,_=>by simp at hl
 |_::_,[],_,_,hl,_,_=>by simp at hl
 |(x,v)::es,g::f,i,r,hl,hc,q=>by
  obtain⟨a1,a2⟩:=hc 0 x v g rfl rfl
  simp only [te,Ah,C]at q
  cases E:vN x with
  |false=>simp [E]at q
  |true=>
  simp only [E]at q
  cases hs:zW P 20 t k x with
  |none=>simp [hs]at q
  |some b=>
   have D:(Op.equal t B g.key).run P w= .ok b w:=uc (P:=P) (S:=S) (w:=w) 20 9980 t _ _ b _ _ hs h1 a1
   cases b with
   |true=>
    simp only [hs,DB]at q
    subst q
    exact⟨some (i,g.val),by simp [Instr.findAsking,D,E5],.inr ⟨0,x,v,g.val,rfl,rfl,zc,a2,g,rfl,a1⟩⟩
   |false=>
    simp only [hs]at q
    obtain⟨u,g1,g2⟩:=BM C h1 es f (i+1) (by simpa using hl) (fun j k x g h1 F=>hc (j+1) k x g h1 F) q
    exact⟨u,by simp [Instr.findAsking,D,E5,g1],g2.cons _ _⟩
theorem zZ{t:TypeId}{k:PD}{D:Value}(hk:ur P t k=true)(h1:V S k D)(es:List (PD×PD))(f:List MapEntry){r:Option (Nat×PD×PD)}(hl:f.length=es.length)
  (hc:∀(j:Nat)k x q,es[j]? =some (k,x)->f[j]? =some q->V S k q.key∧V S x q.val) (E:te P t k es 0=some r):
  ∃g,(Instr.findKey t D f).run P w= .ok g w∧Found S es f 0 r g:=by
 have hu:∃d,P.underlying t=some d:=by
  unfold ur at hk
  simp only [vq]at hk
  cases h:P.underlying t with
  |none=>rw [h]at hk;simp at hk
  |some d=>exact⟨d,rfl⟩
 obtain⟨d,hu⟩:=hu
 cases B:vN k with
 |false=>
  obtain⟨g,g1,g2⟩:=BN hu hk B h1 es f 0 hl hc E
  exact⟨g,MapKept.run_findKey hu g1,g2⟩
 |true=>
  obtain⟨g,g1,g2⟩:=BM (w:=w) B h1 es f 0 hl hc E
  refine⟨g,?_,g2⟩
  have C:∃u,d= .struct u:=by
   unfold ur at hk
   simp only [vq,hu]at hk
   cases k<;>simp only [vN,Dr]at B
   cases d<;>simp only [Dr]at hk
   exact⟨_,rfl⟩
  obtain⟨u,rfl⟩:=C
  cases f with
  |nil=>simpa [Instr.findKey,run_underlying hu,E5,Instr.findNow,Instr.findAsking]using g1
  |cons q f=>
   have F:Instr.findNow (.struct u) D (q::f) 0=none:=by
    simp only [Instr.findNow,Instr.sameNow]
   simpa [Instr.findKey,run_underlying hu,E5,F]using g1
theorem CO{v:Value}{p:PD}(h:ta v=some p):V S p v:=by
 unfold ta at h
 split at h
 ·rename_i cs
  cases f:xx cs.toList with
  |none=>simp [f]at h
  |some ps=>
   simp only [f,Option.map_some,DB]at h
   subst h
   obtain⟨i1,i2⟩:=yR (S:=S) f
   exact .agg ps cs (by simpa using i1.symm) (fun i p v h1 g=>(i2 i p v h1 (by simpa using g)).1)
 ·exact(yQ h).1
theorem AH(h:Sim P X S loc s tm w){t:TypeId}{x k v:RV}{u:Ups}{r:List Nat}{T H:Value}{ok:Bool}(hl:uX P t x k ok s.boxes=some ((v,u),r,true))(hx:R S loc x T)(hk:R S loc k H):
  ∃v',(Instr.lookup t T H ok).run P w= .ok v' w∧R S loc v v'∧u=[]:=by
 unfold uX at hl
 rcases hu:P.underlying t with _|d0
 ·simp only [hu]at hl;exact fE s.boxes hl
 rw [hu]at hl
 cases d0<;>first|exact fE s.boxes hl|skip
 rename_i N vt
 rcases x with _|_|_|_|_|_|_|⟨id,off⟩|_|_|_|_|_<;>first|exact fE s.boxes hl|skip
 cases off<;>first|exact fE s.boxes hl|skip
 rcases k with Q|_|_|_|_|_|_|_|_|_|_|_|_<;>first|exact fE s.boxes hl|skip
 obtain⟨W,r1,r2,h1,f,_⟩:=M.bind_some hl
 obtain⟨hb,_,_⟩:=M.get_some h1
 cases W with
 |var _=>exact fE s.boxes f
 |arr _ _ _=>exact fE s.boxes f
 |dead=>exact fE s.boxes f
 |nest _ _ _ _ _=>exact fE s.boxes f
 |hole _ _ _ _ _ _=>exact fE s.boxes f
 |map a5 a9 es=>
  simp only at f
  split at f
  rotate_left
  ·exact fE s.boxes f
  rename_i hc
  obtain⟨rfl,rfl,E⟩:=hc
  cases hk with
  |d hk=>
  obtain⟨b,clock,g,O,rfl,hw,hlen,I⟩:=h.Cz hb hx
  have two : ∀ {p : PD} {y : Value} (o : Bool), V S p y → R S loc (.tup [.d p, .d (.bool o)]) (.tuple #[y, .bool o]) := fun o G => .tup _ _ rfl (fun i c u hc hu => by
   match i with
   |0=>simp at hc hu;subst hc hu;exact .d G
   |1=>simp at hc hu;subst hc hu;exact .d (.bool o)
   |i+2=>simp at hc)
  rcases hf:te P N Q es 0 with _|r'
  ·simp only [hf]at f;exact fE s.boxes f
  obtain⟨a6,C,g2⟩:=zZ (w:=w) E hk es g.toList (by simpa using hlen) (fun j k x Y q h4=>I j k x Y q (by simpa using h4)) hf
  have B:(Instr.checkKey g.isEmpty 10000 N H).run P w= .ok () w:=xM 20 9980 g.isEmpty N Q H E hk
  rcases g2 with⟨rfl,rfl⟩|⟨j,x0,x',y,rfl,rfl,hj,G, -⟩
  ·rcases J:(se P vt).bind ta with _|z
   ·simp only [hf,J]at f;exact fE s.boxes f
   simp only [hf,J]at f
   obtain⟨U,K,L⟩:=Option.bind_eq_some_iff.1 J
   obtain⟨i,hi,D⟩:=tv K
   have F:=CO (S:=S) L
   cases ok with
   |true=>
    obtain⟨q, -, -⟩:=rp f
    cases q
    refine⟨.tuple #[U,.bool false],?_,two false F,rfl⟩
    simp [Instr.lookup,run_underlying hu,MapKept.run_getObj_map hw,B,C,zeroValue,typeInfo,hi,D,E5]
   |false=>
    obtain⟨q, -, -⟩:=rp f
    cases q
    refine⟨U,?_,.d F,rfl⟩
    simp [Instr.lookup,run_underlying hu,MapKept.run_getObj_map hw,B,C,zeroValue,typeInfo,hi,D,E5]
  ·simp only [hf]at f
   cases ok with
   |true=>
    obtain⟨q, -, -⟩:=rp f
    cases q
    refine⟨.tuple #[y,.bool true],?_,two true G,rfl⟩
    simp [Instr.lookup,run_underlying hu,MapKept.run_getObj_map hw,B,C,E5]
   |false=>
    obtain⟨q, -, -⟩:=rp f
    cases q
    refine⟨y,?_,.d G,rfl⟩
    simp [Instr.lookup,run_underlying hu,MapKept.run_getObj_map hw,B,C,E5]
theorem Step.setBlock(w:World)(b:Nat)(o:Obj):Step (some b) w { w with heap:=w.heap.setIfInBounds b o }:=
 ⟨rfl, rfl, rfl, zc, fun i _ f => by
  have:b≠i:=fun e=>f (by rw [e])
  simp [Array.getElem?_setIfInBounds_ne this],Nat.le_refl _⟩
theorem AI(h:Sim P X S loc s tm w){t:TypeId}{x k y v:RV}{u:Ups}{r:List Nat}{vx N T:Value}(hl:uY P t x k y s.boxes=some ((v,u),r,true))(hx:R S loc x vx)(hk:R S loc k N)(hy:R S loc y T):
  ∃w' S' loc',(Instr.mapUpdate t vx N T).run P w= .ok () w'∧Sim P X S' loc' (s.ups u) tm w'∧v= .undef:=by
 unfold uY at hl
 rcases hu:P.underlying t with _|d0
 ·simp only [hu]at hl;exact fE s.boxes hl
 rw [hu]at hl
 cases d0<;>first|exact fE s.boxes hl|skip
 rename_i kt vt
 rcases x with _|_|_|_|_|_|_|⟨id,off⟩|_|_|_|_|_<;>first|exact fE s.boxes hl|skip
 cases off<;>first|exact fE s.boxes hl|skip
 rcases k with kp|_|_|_|_|_|_|_|_|_|_|_|_<;>first|exact fE s.boxes hl|skip
 obtain⟨bx,r1,r2,h1,O,_⟩:=M.bind_some hl
 obtain⟨hb,_,_⟩:=M.get_some h1
 cases bx with
 |var _=>exact fE s.boxes O
 |arr _ _ _=>exact fE s.boxes O
 |dead=>exact fE s.boxes O
 |nest _ _ _ _ _=>exact fE s.boxes O
 |hole _ _ _ _ _ _=>exact fE s.boxes O
 |map c4 c5 es=>
  simp only at O
  split at O
  rotate_left
  ·exact fE s.boxes O
  rename_i hc
  obtain⟨rfl,rfl,Y⟩:=hc
  cases hk with
  |d hk=>
  obtain⟨⟨p,u0⟩,r3,r4,h3,E,_⟩:=M.bind_some O
  obtain⟨a1,a2,a3⟩:=v8 h3
  obtain⟨S1,Q,a9,K,hle,b6⟩:=h.wo u0 a1 (fun x hx=>.inl (a2 x hx))
  have hp:V S1 p T:=a3 S loc S1 T hy K b6
  have G:=hk.mono K
  rcases hf:te P kt kp es 0 with _|r'
  ·simp only [hf]at E;exact fE s.boxes E
  have b1:∀(hc:(u0.map (·.1)).contains id=false),id∉u0.map (·.1):=fun hc hm=>by
   rw [List.contains_iff_mem.2 hm]at hc;cases hc
  have go : ∀ (H : List (PD × PD)), ((u0.map (·.1)).contains id = false) → (∀ b clock f, w.heap[b]? = some (.map f clock) → f.size = es.length → (∀ (i : Nat) k x B, es[i]? = some (k, x) → f[i]? = some B → V S1 k B.key ∧ V S1 x B.val) →
    ∃g q,(Instr.mapUpdate t (.map (some b)) N T).run P w= .ok () { w with heap:=w.heap.setIfInBounds b (.map g q) }∧g.size=H.length∧∀(i:Nat)k x B,H[i]? =some (k,x)->g[i]? =some B->V S1 k B.key∧V S1 x B.val)->
    ∃w' S' loc',(Instr.mapUpdate t vx N T).run P w= .ok () w'∧Sim P X S' loc' (s.ups (u0++[(id,.map kt vt H)])) tm w':=by
   intro H I b2
   have b4:(s.ups u0).boxes id=some (.map kt vt es):=by rw [tB _ _ _ (b1 I)];exact hb
   obtain⟨b,clock,f,J,rfl,hw,hlen,D⟩:=a9.Cz b4 (hx.mono K hle)
   obtain⟨g,q,g1,g2,g3⟩:=b2 b clock f hw hlen D
   have c0:b<w.heap.size:=(Array.getElem?_eq_some_iff.1 hw).1
   have c2:rP (Q id) (.map b):=by rw [J];exact .same _
   refine⟨_,S1,upd Q id (.map b),g1,?_⟩
   rw [vz,tL]
   refine a9.sq (Step.setBlock w b _) id _ _ (fun b' b5=>by cases b5;exact⟨_,J,rfl⟩) ?_ (fun b' b3=>by cases b3;exact .inl ⟨_,J,rfl⟩) c2
   exact .map kt vt H b q g (by simp [c0]) g2 g3
  have F:(Instr.checkKey false 10000 kt N).run P w= .ok () w:=xM 20 9980 false kt kp N Y G
  cases r' with
  |none=>
   simp only [hf]at E
   split at E
   ·exact fE s.boxes E
   rename_i I
   obtain⟨C, -, -⟩:=M.qw E
   cases C
   obtain ⟨w', S', loc', g1, g2⟩ := go (es ++ [(kp, p)]) (by simpa using I) (fun b clock f hw hlen D => by
    obtain⟨c3,e1,e2⟩:=zZ (w:=w) Y G es f.toList (by simpa using hlen) (fun j k x B h3 E=>D j k x B h3 (by simpa using E)) hf
    rcases e2 with⟨-,rfl⟩|⟨j,x0,x',y',e3,_⟩
    rotate_left
    ·cases e3
    refine⟨f.push { key:=N,val:=T,born:=clock },clock+1,?_,by simp [hlen],fun i k x B C L=>?_⟩
    ·simp [Instr.mapUpdate,run_underlying hu,MapKept.run_getObj_map hw,F,e1,MapKept.run_setObj_map _ hw,E5]
    ·by_cases hi:i<es.length
     ·rw [List.getElem?_append_left hi]at C
      rw [Array.getElem?_push_lt za]at L
      exact D i k x B C (by rw [Array.getElem?_eq_getElem za];exact L)
     ·rw [List.getElem?_append_right za]at C
      have:i=es.length:=by
       have:=(List.getElem?_eq_some_iff.1 C).1
       simp at this;omega
      subst this
      simp at C
      obtain⟨rfl,rfl⟩:=C
      rw [<-hlen]at L
      simp at L
      subst L
      exact⟨G,hp⟩)
   exact⟨w',S',loc',g1,g2,rfl⟩
  |some r'=>
   obtain⟨i,x0,x'⟩:=r'
   simp only [hf]at E
   split at E
   ·exact fE s.boxes E
   rename_i I
   obtain⟨C, -,c1⟩:=M.rm E
   cases C
   obtain ⟨w', S', loc', g1, g2⟩ := go (es.set i (kp, p)) (by simpa using I) (fun b clock f hw hlen D => by
    obtain⟨c3,e1,e2⟩:=zZ (w:=w) Y G es f.toList (by simpa using hlen) (fun j k x B h3 E=>D j k x B h3 (by simpa using E)) hf
    rcases e2 with⟨e3,_⟩|⟨j,c6,x',y',e3,rfl,hj,_,a6,e5,e6⟩
    ·cases e3
    simp only [Nat.zero_add,DB,Prod.mk.injEq]at e3
    obtain⟨rfl,rfl,rfl⟩:=e3
    simp only [Nat.zero_add]at e1
    have a5:f[i]? =some a6:=by simpa using e5
    obtain⟨b0,U⟩:=Di c1.symm G e6
    have W:(Instr.keyThatStays a6.key N).run P w= .ok N w:=by
     rw [<-b0];simp [Instr.keyThatStays,U]
    refine⟨f.modify i fun e=>{ e with key:=N,val:=T },clock,?_,by simp [hlen],fun m k x B C L=>?_⟩
    ·simp [Instr.mapUpdate,run_underlying hu,MapKept.run_getObj_map hw,F,e1,a5,W,MapKept.run_setObj_map _ hw,E5]
    ·by_cases hm:i=m
     ·subst hm
      rw [List.getElem?_set_self za]at C
      cases C
      simp [Array.getElem?_modify,a5]at L
      subst L
      exact⟨G,hp⟩
     ·rw [List.getElem?_set_ne hm]at C
      simp [Array.getElem?_modify,hm]at L
      exact D m k x B C L)
   exact⟨w',S',loc',g1,g2,rfl⟩
end
end Go.Dw
