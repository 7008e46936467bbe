
import Derived.Test.YtgdhcacjeppglaaGreatDwCall2
open Option.some renaming inj->BT, injEq->AD
open Go.Result renaming andThen->B3
open List renaming append_nil->BF, getElem?_map->As, mem_append->BO, mem_cons->Ba, mem_cons_self->Bb, mem_singleton->Bc, nil_append->A5, nodup_append->Bd, nodup_cons->B8
open Option renaming map_eq_some_iff->Be, map_none->Bf, map_some->Ax, toList_some->Bg
open Array renaming ext_getElem?->Bh, getElem?_eq_getElem->Ak, getElem?_modify->Bi

namespace Go.Dw
section
variable {P:Program}{X:Ctx}{S:cp}{loc:cJ}{s:St}{tm:Array Value}{w:World}
theorem Sim.mz(h:Sim P X S loc s tm w){id:Nat}{L:Loc}(c:loc id=some L){b:Nat}(hb:L.has b):
  (∀i a,i≠id->loc i=some a->¬a.has b)∧(∀o,S ⟨b,o,none⟩=none)∧(b∈X.B0∨X.w0.heap.size<=b):=
 ⟨fun i a g e f=>g (h.inj i id a L b e c f hb),fun o=>h.eA id L b c hb o,h.own id L b c hb⟩
def ja(S:cp)(es:List (PD×PD))(a:List MapEntry)(i:Nat)(r:Option (Nat×PD×PD))(c:Option (Nat×Value)):Prop:=
 r=none∧c=none∨∃j x y b,r=some (i+j,x,y)∧c=some (i+j,b.val)∧es[j]? =some (x,y)∧a[j]? =some b∧V S x b.key
theorem ja.cons{es:List (PD×PD)}{a:List MapEntry}{i:Nat}{r:Option (Nat×PD×PD)}{b:Option (Nat×Value)}(h:ja S es a (i+1) r b)(e:PD×PD)(l:MapEntry):ja S (e::es) (l::a) i r b:=by
 rcases h with h|⟨j,x,y,v,c,e2,f,g,k⟩
 ·exact .inl h
 ·exact .inr ⟨j+1,x,y,v,by rw [c];congr 2;omega,by rw [e2];congr 2;omega,by simpa using f,by simpa using g,k⟩
theorem k9{t:TypeId}{d:TypeDesc}(hu:P.underlying t=some d){k:PD}{p:Value}(hk:di P t k=true)(m:dL k=false)(h1:V S k p):∀(es:List (PD×PD))(a:List MapEntry)(i:Nat){r:Option (Nat×PD×PD)},a.length=es.length->
  (∀(j:Nat)k x e,es[j]? =some (k,x)->a[j]? =some e->V S k e.key)->cO P t k es i=some r->
  ∃g,Instr.findNow d p a i=some g∧ja S es a i r g
 | [],[],i,r,_,_,c=>by
  simp only [cO,AD]at c
  subst c
  exact⟨none,rfl,.inl ⟨rfl,rfl⟩⟩
 | [],_::_,_,_,hl,_,_=>by simp at hl
 |_::_,[],_,_,hl,_,_=>by simp at hl
 |(x,v)::es,e::a,i,r,hl,hc,c=>by
  have l:=hc 0 x v e rfl rfl
  simp only [cO,iO,m]at c
  cases o:dL x with
  |true=>simp [o]at c
  |false=>
  simp only [o]at c
  cases f:e9 k x with
  |none=>simp [f]at c
  |some b=>
   have n:=jH hu hk h1 l f
   cases b with
   |true=>
    simp only [f,AD]at c
    subst c
    exact⟨some (i,e.val),by simp only [Instr.findNow,n],.inr ⟨0,x,v,e,rfl,rfl,rfl,rfl,l⟩⟩
   |false=>
    simp only [f]at c
    obtain⟨g,g1,g2⟩:=k9 hu hk m h1 es a (i+1) (by simpa using hl) (fun j k x e h1 q=>hc (j+1) k x e h1 q) c
    exact⟨g,by simp only [Instr.findNow,n];exact g1,g2.cons _ _⟩
theorem k8{t:TypeId}{k:PD}{l:Value}(n:dL k=true)(h1:V S k l):∀(es:List (PD×PD))(a:List MapEntry)(i:Nat){r:Option (Nat×PD×PD)},a.length=es.length->
  (∀(j:Nat)k x e,es[j]? =some (k,x)->a[j]? =some e->V S k e.key)->cO P t k es i=some r->
  ∃g,(Instr.findAsking t l a i).run P w= .ok g w∧ja S es a i r g
 | [],[],i,r,_,_,c=>by
  simp only [cO,AD]at c
  subst c
  exact⟨none,rfl,.inl ⟨rfl,rfl⟩⟩
 | [],_::_,_,_,hl,_,_=>by simp at hl
 |_::_,[],_,_,hl,_,_=>by simp at hl
 |(x,v)::es,e::a,i,r,hl,hc,c=>by
  have m:=hc 0 x v e rfl rfl
  simp only [cO,iO,n]at c
  cases p:dL x with
  |false=>simp [p]at c
  |true=>
  simp only [p]at c
  cases f:jN P 20 t k x with
  |none=>simp [f]at c
  |some b=>
   have o:(Op.equal t l e.key).run P w= .ok b w:=dF (P:=P) (S:=S) (w:=w) 20 9980 t _ _ b _ _ f h1 m
   cases b with
   |true=>
    simp only [f,AD]at c
    subst c
    exact⟨some (i,e.val),by simp [Instr.findAsking,o,B3],.inr ⟨0,x,v,e,rfl,rfl,rfl,rfl,m⟩⟩
   |false=>
    simp only [f]at c
    obtain⟨g,g1,g2⟩:=k8 n h1 es a (i+1) (by simpa using hl) (fun j k x e h1 q=>hc (j+1) k x e h1 q) c
    exact⟨g,by simp [Instr.findAsking,o,B3,g1],g2.cons _ _⟩
theorem oh{t:TypeId}{k:PD}{i:Value}(hk:di P t k=true)(h1:V S k i)(es:List (PD×PD))(a:List MapEntry){r:Option (Nat×PD×PD)}(hl:a.length=es.length)
  (hc:∀(j:Nat)k x c,es[j]? =some (k,x)->a[j]? =some c->V S k c.key) (l:cO P t k es 0=some r):
  ∃b,(Instr.findKey t i a).run P w= .ok b w∧ja S es a 0 r b:=by
 have hu:∃d,P.underlying t=some d:=by
  unfold di at hk
  simp only [eD]at hk
  cases h:P.underlying t with
  |none=>rw [h]at hk;simp at hk
  |some d=>exact⟨d,rfl⟩
 obtain⟨d,hu⟩:=hu
 cases f:dL k with
 |false=>
  obtain⟨b,g1,g2⟩:=k9 hu hk f h1 es a 0 hl hc l
  exact⟨b,MapKept.run_findKey hu g1,g2⟩
 |true=>
  obtain⟨b,g1,g2⟩:=k8 (w:=w) f h1 es a 0 hl hc l
  refine⟨b,?_,g2⟩
  have g:∃e,d= .struct e:=by
   unfold di at hk
   simp only [eD,hu]at hk
   cases k<;>simp only [dL,Bool.false_eq_true]at f
   cases d<;>simp only [Bool.false_eq_true]at hk
   exact⟨_,rfl⟩
  obtain⟨e,rfl⟩:=g
  cases a with
  |nil=>simpa [Instr.findKey,run_underlying hu,B3,Instr.findNow,Instr.findAsking]using g1
  |cons c a=>
   have m:Instr.findNow (.struct e) i (c::a) 0=none:=by
    simp only [Instr.findNow,Instr.sameNow]
   simpa [Instr.findKey,run_underlying hu,B3,m]using g1
theorem kq(h:Sim P X S loc s tm w){id:Nat}{t:TypeId}{v:RV}{u:Ups}{r:List Nat}(hl:fq P id t s.boxes=some ((v,u),r,true)):
  ∃v' w' loc',(Instr.makeMap t none).run P w= .ok v' w'∧Sim P X S loc' (s.ups u) tm w'∧R S loc' v v':=by
 unfold fq at hl
 rcases hu:P.underlying t with _|d0
 ·simp only [hu]at hl;exact fE s.boxes hl
 rw [hu]at hl
 cases d0<;>first|exact fE s.boxes hl|skip
 rename_i q m
 rcases a:(dm P m).bind (fun e2=>(szT P e2).map fun k=>(e2,k))with _|⟨e2,_|k⟩
 ·simp only [a]at hl;exact fE s.boxes hl
 ·simp only [a]at hl;exact fE s.boxes hl
 simp only [a]at hl
 obtain⟨g,he,p⟩:=Option.bind_eq_some_iff.1 a
 obtain⟨k',j,c⟩:=Option.map_eq_some_iff.1 p
 simp only [Prod.mk.injEq]at c
 obtain⟨rfl,rfl⟩:=c
 obtain⟨_,z,B,h1,n,_⟩:=M.bind_some hl
 obtain⟨hb,_,_⟩:=M.cU h1
 obtain⟨o, -, -⟩:=M.cd n
 cases o
 have f:=h.cE hb
 have l:cj (loc id) (.mapn w.heap.size []):=by rw [f];trivial
 refine⟨.map (some w.heap.size),w.alloc (.map #[] 0),upd loc id (.mapn w.heap.size []),by simp [Instr.makeMap],?_,?_⟩
 ·refine h.cw (Step.alloc w _) id _ _ (fun b hc=>by cases hc) ?_ ?_ l
  ·exact .mapn q m g [] none w.heap.size #[] [] ⟨k,j⟩ (heap_alloc_new w _) rfl (fun i k x y h1 _=>by simp at h1) .nil sm (fun i e=>by cases e)
  ·intro b hb
   simp only [Loc.has,Bc]at hb
   subst hb
   exact .inr (.inl (Nat.le_refl _))
 ·exact .ptr id 0 _ (.mapn w.heap.size []) rfl (cf _ _ _) (fun b=>⟨(fun he=>by cases he),(fun he=>by cases he;rfl)⟩)
theorem ncs_snoc(e2:TypeId)(es:List (PD×List PD))(a:PD):ncs e2 ((es++[((a,[]):PD×List PD)]).map fun x=>x.2) ((some es.length).map fun i=>(i,RV.junk))=ncs e2 (es.map fun x=>x.2) ((none:Option Nat).map fun i=>(i,RV.junk))++[.val .junk]:=by
 simp only [Ax,Bf,ncs,List.map_append,List.map_cons,List.map_nil]
 rw [List.set_append_right _ _ sm]
 simp
theorem isZ0_inv{o:Option Value}(h:isZ0 o=true):o=some (.slice none 0 0):=by
 unfold isZ0 at h
 split at h
 ·rfl
 ·cases h
theorem Sim.nU(h:Sim P X S loc s tm w){id:Nat}{o p e2:TypeId}{es:List (PD×List PD)}{eR:Option Nat}{v:Value}(hb:s.boxes id=some (.mapn o p e2 es eR))(m:R S loc (.ptr id 0) v):
  ∃b a bs k,loc id=some (.mapn b bs)∧v= .map (some b)∧szT P e2=some (k+1)∧w.heap[b]? =some (.map a a.size)∧a.size=es.length∧
   (∀(i:Nat)k x c,es[i]? =some (k,x)->a[i]? =some c->V S k c.key∧c.born=i)∧
   NCs P S loc w (ncs e2 (es.map (·.2)) (eR.map fun i=>(i,.junk))) (a.toList.map (·.val)) bs∧(b::bs).Nodup∧∀i,eR=some i->i<es.length:=by
 cases m with
 |ptr _ _ _ L _ j n=>
  have:=h.dq hb j
  cases this with
  |mapn _ _ _ _ _ b a bs g hw hl hk hc f l=>
   obtain⟨k,e⟩:=g
   exact⟨b,a,bs,k,j,(n b).2 .mapn,e,hw,hl,hk,hc,f,l⟩
theorem set_same(w:World){b:Nat}{o:Obj}(h:w.heap[b]? =some o):{ w with heap:=w.heap.setIfInBounds b o }=w:=by
 have:w.heap.setIfInBounds b o=w.heap:=by
  apply Bh
  intro i
  rw [Array.getElem?_setIfInBounds]
  by_cases a:b=i
  ·subst a
   rw [if_pos rfl,if_pos (Array.getElem?_eq_some_iff.1 h).1,h]
  ·rw [if_neg a]
 rw [this]
theorem mB{es:List (PD×List PD)}{i:Nat}{x y:PD}(h:(jO es)[i]? =some (x,y)):∃row,es[i]? =some (x,row)∧y= .lst row:=by
 unfold jO at h
 rw [As,Be]at h
 obtain⟨e,h1,a⟩:=h
 cases a
 exact⟨e.2,h1,rfl⟩
theorem Sim.newRow(h:Sim P X S loc s tm w){new sz:Nat}{e2:TypeId}{row:List PD}{v:Value}{ys:List Value}(f:s.boxes new=none)(hsz:szT P e2=some sz)(how:rowAt w e2 sz v row.length ys)(hf:Flat S sz row ys)
  (e:∀b,cA v=some b->(∀i L,loc i=some L->¬L.has b)∧(∀o,S ⟨b,o,none⟩=none)∧(b∈X.B0∨X.w0.heap.size<=b)):
  ∃loc',Sim P X S loc' { s with boxes:=upd s.boxes new (.arr 0 e2 row) } tm w∧R S loc' (.ref new 0) v∧cm loc loc':=by
 have j:loc new=none:=h.cE f
 have g:cj (loc new) (.arr 0 e2 sz v):=by rw [j];trivial
 have ho:v.oneCell'=true:=by obtain⟨a,c,rfl,_⟩:=how.hdr;rfl
 refine⟨upd loc new (.arr 0 e2 sz v),h.cw (Step.refl none w) new _ _ (fun b hc=>by cases hc) (.arr 0 e2 row sz v ys hsz how hf) (fun b hb=>?_) g,?_,cm.upd g⟩
 ·exact .inr (.inr (e b hb))
 ·exact .ref new 0 v _ ho (cf _ _ _) fun l n m k he=>by cases he;exact⟨Nat.le_refl _,fun _=>rfl⟩
theorem jP(h:Sim P X S loc s tm w){I:Nat}{t:TypeId}{x k v:RV}{u:Ups}{r:List Nat}{vx C:Value}(hl:eE P I t x k s.boxes=some ((v,u),r,true))(hx:R S loc x vx)(hk:R S loc k C):
  ∃v' w' loc',(Instr.mapEntry t vx C).run P w= .ok v' w'∧Sim P X S loc' (s.ups u) tm w'∧R S loc' v v':=by
 unfold eE at hl
 rcases hu:P.underlying t with _|d0
 ·simp only [hu]at hl;exact fE s.boxes hl
 rw [hu]at hl
 cases d0<;>first|exact fE s.boxes hl|skip
 rename_i N vt
 rcases x with _|_|_|_|_|_|_|⟨id,off⟩|_|_|_|_|_<;>first|exact fE s.boxes hl|skip
 cases off<;>first|exact fE s.boxes hl|skip
 rcases k with kp|_|_|_|_|_|_|_|_|_|_|_|_<;>first|exact fE s.boxes hl|skip
 obtain⟨bx,r1,r2,h1,z,_⟩:=M.bind_some hl
 obtain⟨hb,_,_⟩:=M.get_some h1
 cases bx with
 |var _=>exact fE s.boxes z
 |arr _ _ _=>exact fE s.boxes z
 |dead=>exact fE s.boxes z
 |nest _ _ _ _ _=>exact fE s.boxes z
 |map _ _ _=>exact fE s.boxes z
 |hole _ _ _ _ _ _=>exact fE s.boxes z
 |deep _ _ _ _ _ _ _=>exact fE s.boxes z
 |mapn c6 d2 e2 es eR=>
  rcases eR with _|eR
  rotate_left
  ·exact fE s.boxes z
  simp only at z
  split at z
  rotate_left
  ·exact fE s.boxes z
  rename_i hc
  obtain⟨rfl,rfl,a9,b2⟩:=hc
  obtain⟨_,r3,r4,h3,E,_⟩:=M.bind_some z
  obtain⟨W,_,_⟩:=M.cU h3
  cases hk with
  |d hk=>
  obtain⟨b,f,bs,k2,l,rfl,a6,hw,hlen,J,a5,m, -⟩:=h.nU hb hx
  rcases hf:cO P N kp (jO es) 0 with _|r'
  ·simp only [hf]at E;exact fE s.boxes E
  obtain ⟨d1, a2, g2⟩ := oh (w := w) a9 hk (jO es) f.toList (by simpa [jO] using hlen) (fun j k x q h3 E => by
   obtain⟨row,B,_⟩:=mB h3
   exact(J j k row q B (by simpa using E)).1) hf
  have o:(Instr.checkKey false 10000 N C).run P w= .ok () w:=gj 20 9980 false N kp C a9 hk
  have two : ∀ {loc' : cJ} {y : Value} (i : Nat), R S loc' (.ref I 0) y → R S loc' (.tup [.ref I 0, .d (.int .i64 i)]) (.tuple #[y, goInt i]) := fun i hv => .tup _ _ rfl (fun j c u hc hu => by
   match j with
   |0=>simp at hc hu;subst hc hu;exact hv
   |1=>simp at hc hu;subst hc hu;exact .d (.int _ _)
   |j+2=>simp at hc)
  have b5:∀c∈bs,c≠b:=fun c hc e=>(List.nodup_cons.1 m).1 (e▸hc)
  rcases g2 with⟨rfl,rfl⟩|⟨i,x0,y0,q,rfl,rfl,hi,b6,c0⟩
  ·--a new entry
   simp only [hf]at E
   by_cases a8:isZ0 (df P vt)=true
   ·rw [if_pos a8]at E
    have hz:=isZ0_inv a8
    obtain⟨B, -, -⟩:=M.cd E
    cases B
    obtain⟨ti,c3,c4⟩:=c8 hz
    have F:(Instr.mapEntry t (.map (some b)) C).run P w= .ok (.tuple #[.slice none 0 0,goInt f.size]) { w with heap:=w.heap.setIfInBounds b (.map (f.push { key:=C,val:= .slice none 0 0,born:=f.size }) (f.size+1)) }:=by
     simp [Instr.mapEntry,run_underlying hu,MapKept.run_getObj_map hw,o,a2,zeroValue,typeInfo,c3,c4,MapKept.run_setObj_map _ hw,B3]
    have c1:b<w.heap.size:=(Array.getElem?_eq_some_iff.1 hw).1
    let w':World:={ w with heap:=w.heap.setIfInBounds b (.map (f.push { key:=C,val:= .slice none 0 0,born:=f.size }) (f.size+1)) }
    have H:Step (some b) w w':=Step.setBlock w b _
    have G:cj (loc id) (.mapn b bs):=by rw [l];exact .same _
    have a4:∀c∈bs,w'.heap[c]? =w.heap[c]? :=fun c hc=>H.block c (a5.lt c hc) fun e=>b5 c hc (BT e)
    have Q:=(a5.aE (Sub.refl S) (cm.upd G) a4).append (.cons (.val .junk (.slice none 0 0) (.junk _) rfl) .nil:NCs P S (upd loc id (.mapn b bs)) w' [.val .junk] [.slice none 0 0] ([]++[]))
    have k1:=h.cw H id (.mapn N vt e2 (es++[(kp,[])]) (some es.length)) (.mapn b bs) (fun c hc=>by cases hc;exact⟨_,l,Bb ..⟩)
     (.mapn N vt e2 _ _ b (f.push { key := C, val := .slice none 0 0, born := f.size }) bs ⟨k2, a6⟩ (by simp [w', c1]) (by simp [hlen]) (fun i k x q B h6 => by
      by_cases hi:i<es.length
      ·rw [List.getElem?_append_left hi]at B
       rw [Array.getElem?_push_lt om]at h6
       exact J i k x q B (by rw [Ak om];exact h6)
      ·rw [List.getElem?_append_right om]at B
       have:i=es.length:=by
        have:=(List.getElem?_eq_some_iff.1 B).1
        simp at this;omega
       subst this
       simp at B
       obtain⟨rfl,rfl⟩:=B
       rw [<-hlen]at h6
       simp at h6
       subst h6
       exact⟨hk,hlen⟩) (by
      rw [BF,BF]at Q
      rw [ncs_snoc]
      simpa using Q) m (fun i e=>by cases e;simp)) (fun c hc=>.inl ⟨_,l,hc⟩) G
    have n:upd s.boxes id (Box.mapn N vt e2 (es++[(kp,[])]) (some es.length)) I=none:=by rw [ck _ _ b2];exact W
    obtain⟨loc',k3,k4,_⟩:=k1.newRow (row:=[]) (ys:=[]) n a6 (v:= .slice none 0 0) (.inr ⟨rfl,rfl,none,rfl⟩) (Flat.nil S _) (fun c hc=>by cases hc)
    refine⟨_,w',loc',F,k3,?_⟩
    rw [hlen]
    exact two es.length k4
   ·rw [if_neg a8]at E;exact fE s.boxes E
  ·--an old one
   obtain⟨row,a1,rfl⟩:=mB hi
   simp only [Nat.zero_add]at hf a2
   simp only [hf]at E
   obtain⟨B, -,c2⟩:=M.cg E
   cases B
   have p:f[i]? =some q:=by simpa using b6
   obtain⟨O,Y⟩:=lf c2.symm hk c0
   have K:(Instr.keyThatStays q.key C).run P w= .ok C w:=by
    rw [<-O];simp [Instr.keyThatStays,Y]
   have a0:=(J i x0 row q a1 p).2
   have a7:f.modify i (fun e=>{ e with key:=C })=f:=by
    apply Bh
    intro j
    rw [Bi]
    by_cases hj:i=j
    ·subst hj
     rw [if_pos rfl,p,O]
     rfl
    ·rw [if_neg hj]
   have F:(Instr.mapEntry t (.map (some b)) C).run P w= .ok (.tuple #[q.val,goInt i]) w:=by
    have U:=MapKept.run_setObj_map (P:=P) (.map f f.size) hw
    rw [set_same w hw]at U
    simp [Instr.mapEntry,run_underlying hu,MapKept.run_getObj_map hw,o,a2,p,K,a7,U,a0,B3]
   have b8:i<es.length:=(List.getElem?_eq_some_iff.1 a1).1
   obtain⟨v0,b0,D,bs2,rfl,q2,q3,q4⟩:=a5.split (mE (e2:=e2) (ess:=es.map (·.2)) (i:=i) (es:=row) (by simp [a1]))
   have c5:v0=q.val:=by
    simp [p]at q2
    exact q2.symm
   subst c5
   cases q3 with
   |row _ _ sz _ ys b4 T b7=>
   have b3:q.val.oneCell'=true:=by obtain⟨a,c,e,_⟩:=T.hdr;rw [e];rfl
   have G:cj (loc id) (.mapn b (D++bs2)):=by rw [l];exact .heldm
   have g0:=q4 (.val .junk) q.val [] (.val _ q.val (.junk _) b3)
   rw [Bf,fD e2 _ none i .junk (fun _ _ e=>by cases e),A5,fV q2]at g0
   have b1:(b::(D++bs2)).Nodup:=List.Nodup.sublist (List.Sublist.cons_cons _ (List.Sublist.append (List.Sublist.refl _) (List.sublist_append_right _ _))) m
   have k1:=h.cw (Step.refl none w) id (.mapn N vt e2 es (some i)) (.mapn b (D++bs2)) (fun c hc=>by cases hc)
    (.mapn N vt e2 es (some i) b f _ ⟨k2, a6⟩ hw hlen J (g0.aE (Sub.refl S) (cm.upd G) fun _ _ => rfl) b1 (fun j e => by cases e; exact b8)) (fun c hc => .inl ⟨_, l, by
     simp only [Loc.has,Ba,BO]at hc⊢
     rcases hc with hc|hc|hc
     ·exact .inl hc
     ·exact .inr (.inl hc)
     ·exact .inr (.inr (.inr hc))⟩) G
   have n:upd s.boxes id (Box.mapn N vt e2 es (some i)) I=none:=by rw [ck _ _ b2];exact W
   obtain ⟨loc', k3, k4, _⟩ := k1.newRow (row := row) n b4 T b7 (fun c hc => by
    have b9:Loc.has (.mapn b (D++((cA q.val).toList++bs2))) c:=by
     simp only [Loc.has,Ba,BO]
     exact .inr (.inr (.inl (by rw [hc];simp)))
    obtain⟨f1,f2,f3⟩:=h.mz l b9
    refine⟨fun j L hj g=>?_,f2,f3⟩
    by_cases a3:j=id
    ·subst a3
     rw [cf]at hj
     cases hj
     have g:c∈b::(D++bs2):=g
     rw [hc]at m
     simp only [Bg,B8,Bd,BO,Bc,not_or]at m
     simp only [Ba,BO]at g
     rcases g with g|g|g
     ·exact m.1.2.1 g.symm
     ·exact m.2.2.2 c g c (.inl rfl) rfl
     ·exact m.2.2.1.2.2 c rfl c g rfl
    ·rw [ck _ _ a3]at hj
     exact f1 j L a3 hj g)
   exact⟨_,w,loc',F,k3,two i k4⟩
theorem lG{a:Array MapEntry}{i:Nat}(h:∀(j:Nat)b,a[j]? =some b->b.born=j)(c:i<a.size):a.findIdx? (fun e=>(e.born:Int)==(i:Int))=some i:=by
 rw [Array.findIdx?_eq_some_iff_getElem]
 refine⟨c,?_,fun j f=>?_⟩
 ·have:=h i a[i] (Ak c)
  simp [this]
 ·have:=h j (a[j]'om) (Ak om)
  simp [this]
  omega
theorem iH(h:Sim P X S loc s tm w){t:TypeId}{x n y v:RV}{u:Ups}{r:List Nat}{vx vn p:Value}(hl:dE x n y s.boxes=some ((v,u),r,true))(hx:R S loc x vx)(hn:R S loc n vn)(hy:R S loc y p):
  ∃w' loc',(Instr.entryStore t vx vn p).run P w= .ok () w'∧Sim P X S loc' (s.ups u) tm w'∧v= .undef:=by
 unfold dE at hl
 split at hl
 rotate_left
 ·exact fE s.boxes hl
 rename_i id q m k kv
 obtain⟨bx,r1,r2,h1,h2,_⟩:=M.bind_some hl
 obtain⟨hb,_,_⟩:=M.get_some h1
 split at h2
 rotate_left
 ·exact fE s.boxes h2
 rename_i kt vt e2 es i
 obtain⟨bk,r3,r4,h3,N,_⟩:=M.bind_some h2
 obtain⟨W,_,_⟩:=M.get_some h3
 split at N
 rotate_left
 ·exact fE s.boxes N
 rename_i d0 I row
 split at N
 rotate_left
 ·exact fE s.boxes N
 rename_i hc
 obtain⟨rfl,rfl,a3,rfl⟩:=hc
 rcases K:es[i]? with _|⟨key,c6⟩
 ·simp only [K]at N;exact fE s.boxes N
 simp only [K]at N
 obtain⟨h5, -, -⟩:=M.cd N
 cases h5
 obtain⟨b,f,bs,k2,F,rfl,c3,hw,hlen,a0,c1,l, -⟩:=h.nU hb hx
 have c4:vn= .int q i:=hn.cC
 subst c4
 have a8:i<es.length:=(List.getElem?_eq_some_iff.1 K).1
 obtain⟨Lk,J,b5⟩:=h.boxes k _ W
 cases b5 with
 |arr _ _ _ sz a7 ys b3 b1 b8=>
 have hv:p=a7:=by
  cases hy with
  |ref _ _ _ L' _ a4 b6=>
   rw [J]at a4
   cases a4
   exact(b6 _ _ _ _ .arr).2 rfl
 subst hv
 have c0:b<w.heap.size:=(Array.getElem?_eq_some_iff.1 hw).1
 have B:∀(j:Nat)en,f[j]? =some en->en.born=j:=fun j en H=>by
  have b9:j<es.length:=by rw [<-hlen];exact(Array.getElem?_eq_some_iff.1 H).1
  exact(a0 j es[j].1 es[j].2 en (by rw [zc b9]) H).2
 have b2:(Instr.entryStore t (.map (some b)) (.int q i) p).run P w= .ok () { w with heap:=w.heap.setIfInBounds b (.map (f.modify i fun e=>{ e with val:=p }) f.size) }:=by
  simp [Instr.entryStore,MapKept.run_getObj_map hw,asInt,asIntOf,lG (i:=i) B om,MapKept.run_setObj_map _ hw,B3]
 have O:cj (loc k) .dead:=by rw [J];exact .dead _
 have k1:=h.cw (Step.refl none w) k .dead .dead (fun b hc=>by cases hc) (.dead _ rfl) (fun b hc=>by cases hc) O
 have E:upd loc k .dead id=some (.mapn b bs):=by rw [ck _ _ (Ne.symm a3)];exact F
 obtain⟨v0,b0,C,bs2,rfl,q2,q3,q4⟩:=c1.split (iQ (e2:=I) (ess:=es.map (·.2)) (rv:= .junk) (by simpa using a8))
 cases q3 with
 |val _ _ _ _=>
 have D:∀c,cA p=some c->(∀i L',i≠k->loc i=some L'->¬L'.has c)∧(∀o,S ⟨c,o,none⟩=none)∧(c∈X.B0∨X.w0.heap.size<=c):=fun c b7=>h.mz J b7
 let L2:Loc:= .mapn b (C++((cA p).toList++bs2))
 have Q:cj (upd loc k .dead id) L2:=by rw [E];exact .heldm
 let w':World:={ w with heap:=w.heap.setIfInBounds b (.map (f.modify i fun e=>{ e with val:=p }) f.size) }
 have G:Step (some b) w w':=Step.setBlock w b _
 have g0:=q4 (.row I row) p (cA p).toList (.row I row sz p ys b3 b1 b8)
 have Y:¬Loc.has (.arr kv I sz p) b:=fun W=>a3 (h.inj k id _ _ b J F W (Bb ..))
 have a2:∀c∈C++((cA p).toList++bs2),w'.heap[c]? =w.heap[c]? :=fun c hc=>by
  refine G.block c (g0.lt c hc) fun e=>?_
  obtain rfl:=BT e
  simp only [A5,B8,BO,not_or]at l
  simp only [BO]at hc
  rcases hc with hc|hc|hc
  ·exact l.1.1 hc
  ·exact Y (by simpa [Loc.has]using hc)
  ·exact l.1.2 hc
 have a9:(b::(C++((cA p).toList++bs2))).Nodup:=by
  rcases c2:cA p with _|g
  ·simpa using l
  ·have z:¬Loc.has (.mapn b (C++([]++bs2))) g:=(D g c2).1 id _ (Ne.symm a3) F
   simp only [Loc.has,A5,Ba,BO,not_or]at z
   simp only [A5,B8,Bd,BO,not_or]at l
   simp only [Bg,B8,Bd,BO,Bc,not_or]
   refine⟨⟨l.1.1,fun e=>z.1 e.symm,l.1.2⟩,l.2.1,⟨sm,l.2.2.1,fun a ha b hb U=>?_⟩,fun a ha b hb U=>?_⟩
   ·subst ha;subst U;exact z.2.2 hb
   ·subst U
    rcases hb with rfl|hb
    ·exact z.2.1 ha
    ·exact l.2.2.2 a ha a hb rfl
 have e1:(ncs I (es.map (·.2)) ((some i).map fun i=>(i,RV.junk))).set i (.row I row)=ncs I ((es.set i (key,row)).map (·.2)) ((none:Option Nat).map fun i=>(i,RV.junk)):=by
  simp only [Ax,Bf]
  rw [jJ,List.map_set]
 have e3:((f.modify i fun e=>{ e with val:=p }).toList.map (·.val))=(f.toList.map (·.val)).set i p:=by
  apply List.ext_getElem?
  intro j
  rw [As,List.getElem?_set,As]
  simp only [Array.getElem?_toList,Bi,List.length_map,Array.length_toList]
  by_cases H:i=j
  ·subst H
   rw [if_pos rfl,if_pos rfl,if_pos om,Ak om]
   rfl
  ·rw [if_neg H,if_neg H]
 have c5:=k1.cw G id (.mapn kt vt I (es.set i (key,row)) none) L2 (fun c hc=>by cases hc;exact⟨_,E,Bb ..⟩)
  (.mapn kt vt I _ none b (f.modify i fun e => { e with val := p }) _ ⟨k2, c3⟩ (by simp [w', c0]) (by simp [hlen]) (fun j k x en h5 T => by
   rw [Bi]at T
   by_cases H:i=j
   ·subst H
    rw [List.getElem?_set_self a8]at h5
    cases h5
    rw [if_pos rfl,Be]at T
    obtain⟨b4,T,rfl⟩:=T
    exact a0 i key c6 b4 K T
   ·rw [List.getElem?_set_ne H]at h5
    rw [if_neg H]at T
    exact a0 j k x en h5 T) (by
   rw [<-e1,e3]
   exact g0.aE (Sub.refl S) ((cm.upd O).trans (cm.upd Q)) a2) a9 (fun i e=>by cases e))
  (fun c hc => by
   have hc:c∈b::(C++((cA p).toList++bs2)):=hc
   by_cases a6:cA p=some c
   ·obtain⟨f1,f2,f3⟩:=D c a6
    refine .inr (.inr ⟨fun i L' L a5=>?_,f2,f3⟩)
    by_cases a1:i=k
    ·subst a1;rw [cf]at L;cases L;cases a5
    ·rw [ck _ _ a1]at L
     exact f1 i L' a1 L a5
   ·refine .inl ⟨_,E,?_⟩
    simp only [Loc.has,A5,Ba,BO]at hc⊢
    rcases hc with hc|hc|hc|hc
    ·exact .inl hc
    ·exact .inr (.inl hc)
    ·exact(a6 (by simpa using hc)).elim
    ·exact .inr (.inr hc)) Q
 exact⟨w',_,b2,c5,rfl⟩
end
end Go.Dw
