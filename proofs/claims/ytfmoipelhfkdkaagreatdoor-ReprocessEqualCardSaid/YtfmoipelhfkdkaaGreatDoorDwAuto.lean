
import Derived.Test.YtfmoipelhfkdkaaGreatDoorDwNest
import Derived.Test.YtfmoipelhfkdkaaGreatDoorDwShort
set_option linter.unusedVariables false
set_option linter.unusedSimpArgs false

namespace Go.Dw
def HM{β:Type}(m:Option β)(r:β)(G:Prop):Prop:=m=some r->G
theorem HM.i{β:Type}{m:Option β}{r:β}{G j:Prop}(f:j->G)(h:HM m r j):HM m r G:=fun e=>f (h e)
def HU{β:Type}(m:Option β)(r:β)(G:Prop):Prop:=m=some r->G
theorem HU.b{α β:Type}{m:Option α}{k:α->Option β}{r:β}{G:Prop}(h:HM (m.bind k) r G):HU (m.bind k) r G:=h
theorem HU.i{β:Type}{t:Bool}{a b:Option β}{r:β}{G:Prop}(h:HM (if t=true then a else b) r G):HU (if t=true then a else b) r G:=h
theorem HU.s{β:Type}{a r:β}{G:Prop}(h:HM (some a) r G):HU (some a) r G:=h
theorem HM.b{α β:Type}{m:Option α}{k:α->Option β}{r:β}{G:Prop}(h:∀x,m=some x->HU (k x) r G):HM (m.bind k) r G:=fun e=>oh e h
theorem HM.e{β:Type}{a r:β}{G:Prop}(h:a=r->G):HM (some a) r G:=fun e=>h (Option.some.inj e)
def HF{β:Type}(t:Bool)(a b:Option β)(r:β)(G:Prop):Prop:=(if t=true then a else b)=some r->G
theorem HF.o{β:Type}{t:Bool}{a b:Option β}{r:β}{G:Prop}(h:HF t a b r G):HM (if t=true then a else b) r G:=h
def HB{α β:Type}(m:Option α)(k:α->Option β)(r:β)(G:Prop):Prop:=m.bind k=some r->G
theorem HB.o{α β:Type}{m:Option α}{k:α->Option β}{r:β}{G:Prop}(h:HB m k r G):HM (m.bind k) r G:=h
theorem HB.b{α β:Type}{m:Option α}{k:α->Option β}{r:β}{G:α->Prop}{j:Prop}(f:∀x,m=some x->G x->j)(h:∀x,HU (k x) r (G x)):HB m k r j:=fun e=>oh e fun x q e=>f x q (h x e)
theorem consE{α:Type}{a j:α}{t t':List α}(h:a=j)(k:t=t'):a::t=j::t':=by rw [h,k]
theorem nilE{α:Type}:([]:List α)=[]:=rfl
theorem ptrE{i a b:Nat}(h:a=b):RV.ptr i a=RV.ptr i b:=by rw [h]
theorem refE{i a b:Nat}(h:a=b):RV.ref i a=RV.ref i b:=by rw [h]
theorem eltE{i v n a b:Nat}(h:a=b):RV.elt i v n a=RV.elt i v n b:=by rw [h]
theorem arrE{a b:Nat}{e:TypeId}{es:List PD}(h:a=b):Box.arr a e es=Box.arr b e es:=by rw [h]
theorem aggE{a b:List RV}(h:a=b):RV.agg a=RV.agg b:=by rw [h]
theorem tupE{a b:List RV}(h:a=b):RV.tup a=RV.tup b:=by rw [h]
theorem varE{a b:List RV}(h:a=b):Box.var a=Box.var b:=by rw [h]
theorem takeE{n:Nat}{cs l:List PD}(h:List.take n cs=l):RV.d (PD.agg (List.take n cs))=RV.d (PD.agg l):=by rw [h]
theorem pairR{i j:Nat}{x y:RV}(hi:i=j)(h:x=y):(i,x)=(j,y):=by rw [hi,h]
theorem pairB{i j:Nat}{x y:Box}(hi:i=j)(h:x=y):(i,x)=(j,y):=by rw [hi,h]
theorem nfA {α : Type} {x y : α} (h : x = y := by
 repeat' (first
  |apply consE
  |exact nilE
  |apply pairR
  |apply pairB
  |(with_reducible apply takeE)
  |exact @rfl RV (RV.d _)
  |exact @rfl RV RV.rm
  |apply ptrE
  |apply refE
  |apply eltE
  |exact @rfl RV (RV.cptr _)
  |apply aggE
  |apply tupE
  |apply varE
  |apply arrE
  |exact @rfl Box Box.dead
  |exact @rfl PD (PD.int _ _)
  |exact @rfl Nat 0
  |exact @rfl Nat 1
  |exact @rfl Nat 2
  |exact @rfl Nat 3
  |exact @rfl Nat 4
  |exact @rfl Nat 5
  |exact @rfl Nat 6
  |exact @rfl Nat 7
  |exact @rfl Nat 8
  |exact @rfl Nat 9
  |exact @rfl Nat 10
  |exact @rfl Nat 11
  |exact @rfl Nat 12
  |exact @rfl Nat 13
  |exact @rfl Nat 14
  |exact @rfl Nat 15
  |exact @rfl Nat (OfNat.ofNat _)
  |exact @rfl RV _
  |exact @rfl Box _
  |exact @rfl PD _
  |exact @rfl Nat _)):x=y:=h
def upL{α:Type}(u:List (Nat×α))(l:List (Nat×α)):List (Nat×α):=l.map fun x=>(x.1,(assoc u x.1).getD x.2)
def seL{α:Type}(j:List Nat)(l:List (Nat×α)):List (Nat×α):=l.filter fun x=>j.contains x.1
def keepR:List w6->List Nat
 | []=>[]
 | .dE rs _::_=>rs
 |_::g=>keepR g
def keepB:List w6->List Nat
 | []=>[]
 | .dE _ bs::_=>bs
 |_::g=>keepB g
abbrev SR(σ:Type):=σ->List (Nat×RV)
abbrev SB(σ:Type):=σ->List (Nat×Box)
abbrev JT(ω:Type):=Program->Hints->FuncId->Nat->Nat->List (Nat×RV)->List (Nat×Box)->ω->Ex->List (Nat×RV)->List (Nat×Box)->Prop
class LI {σ ω:Type} (body:σ->Option (gB σ ω)) (hid:outParam Nat) (IR:outParam (SR σ)) (IB:outParam (SB σ)) (J:outParam (JT ω)):Prop
def jX{ω:Type}(j:Nat)(q:SR ω)(k:SB ω):JT ω:=fun P H f nb id R1 B1 o e R B=>e= .exit id∧rJ P nb (A R B) (H.at_ f nb j)=some (A (seL (keepR (H.at_ f nb j)) (upL (q o) R1)) (seL (keepB (H.at_ f nb j)) (upL (k o) B1)))
def jR{ω:Type}(fn:Func)(E:ω->RV×List Box):JT ω:=fun P H f nb _ _ _ o e R B=>e= .ret∧finish P (H.own f) fn nb (A R B)=some (E o)
def jY{υ ω:Type}(j:Nat)(q:SR υ)(k:SB υ)(fn:Func)(E:ω->RV×List Box):JT (υ⊕ω):=fun P H f nb id R1 B1 o=>match o with| .inl y=>jX j q k P H f nb id R1 B1 y| .inr r=>jR fn E P H f nb id R1 B1 r
def QL{σ ω:Type}(x:gB σ ω)(I:σ->List (Nat×RV)->List (Nat×Box)->Prop)(J:ω->Ex->List (Nat×RV)->List (Nat×Box)->Prop)(e:Ex)(R:List (Nat×RV))(B:List (Nat×Box)):Prop:=match x with| .next s'=>e= .normal∧I s' R B| .stop j=>e≠ .normal∧J j e R B
theorem QLn{σ ω:Type}{s:σ}{I:σ->List (Nat×RV)->List (Nat×Box)->Prop}{J:ω->Ex->List (Nat×RV)->List (Nat×Box)->Prop}{R:List (Nat×RV)}{B:List (Nat×Box)}(h:I s R B):QL (.next s) I J .normal R B:=⟨rfl,h⟩
theorem QLx{σ ω:Type}{s:ω}{I:σ->List (Nat×RV)->List (Nat×Box)->Prop}{J:ω->Ex->List (Nat×RV)->List (Nat×Box)->Prop}{R:List (Nat×RV)}{B:List (Nat×Box)}{id:Nat}(h:J s (.exit id) R B):QL (.stop s) I J (.exit id) R B:=⟨nofun,h⟩
theorem QLr{σ ω:Type}{s:ω}{I:σ->List (Nat×RV)->List (Nat×Box)->Prop}{J:ω->Ex->List (Nat×RV)->List (Nat×Box)->Prop}{R:List (Nat×RV)}{B:List (Nat×Box)}(h:J s .ret R B):QL (.stop s) I J .ret R B:=⟨nofun,h⟩
theorem doneR{P:Program}{own:Nat->Bool}{fn:Func}{nb:Nat}{r:RV}{j:List Box}{R:List (Nat×RV)}{B:List (Nat×Box)}(h:finish P own fn nb (A R B)=some (r,j)):tZ P own fn nb r j .ret R B:=h
theorem pF{α γ:Type}{p:α×γ->Prop}(h:∀a b,p (a,b)):∀x,p x:=fun⟨a,b⟩=>h a b
theorem HU.v{β:Type}{t:Bool}{a b:Option β}{r:β}{G:Prop}(h1:t=true->HU a r G)(j:t=false->HU b r G):HU (if t=true then a else b) r G:=fun e=>u4 e h1 j
class EN (α:Type) (g:outParam (α->PD)):Prop
instance :EN Int (PD.int .i64):=⟨⟩
instance :EN Bool PD.bool:=⟨⟩
instance :EN (List UInt8) PD.str:=⟨⟩
instance {α:Type} {g:α->PD} [EN α g]:EN (List α) (fun l=>PD.lst (l.map g)):=⟨⟩
class CE (P:Program) (H:Hints) (ext:FuncId->Option rO) {α:Type} (m:Option α) (g:outParam FuncId) (as:outParam (List RV)) (bs:outParam (List Box)) (q:outParam (α->RV×List Box)):Prop where
 ev:∀{r},m=some r->EvP P H ext g as bs (q r)
theorem ce{P:Program}{H:Hints}{ext:FuncId->Option rO}{α:Type}{m:Option α}{r:α}{g:FuncId}{as:List RV}{bs:List Box}{q:α->RV×List Box}{x:RV×List Box}(h:m=some r) [c:CE P H ext m g as bs q] (j:q r=x:=by exact rfl):EvP P H ext g as bs x:=j▸c.ev h
section
variable {β:Type}{m:Option β}{r:β}{P:Program}{H:Hints}{ext:FuncId->Option rO}{mt:Hf}{ops:Array Oper}{l:List Oper}{R:List (Nat×RV)}{B:List (Nat×Box)}{K:List (Nat×RV)->List (Nat×Box)->List Tr->Prop}
 {d:Nat} {op:Op} {ty:TypeId} {p:String} {af:Array Edge} {g:Option (Nat×Bool)}
theorem kW{o:Oper}(h:HM m r (WO P H ext mt ops (o::l) R B K)):HM m r (WO P H ext mt ops (o::l) R B K):=h
theorem kP{o:Oper}{y:List Oper}(h:HM m r (WO P H ext mt ops (o::List.append l y) R B K)):HM m r (WO P H ext mt ops (List.append (o::l) y) R B K):=h
theorem kQ(h:HM m r (WO P H ext mt ops l R B K)):HM m r (WO P H ext mt ops (List.append [] l) R B K):=h
theorem kS{j:Nat×Bool}{x:Option Nat}(h:HM m r (WO P H ext mt ops (⟨x,op,ty,p,af,some j⟩::l) R B K)):HM m r (WO P H ext mt ops (⟨x,op,ty,p,af,some j⟩::l) R B K):=h
theorem kO{x:Option Nat}(h:HM m r (WO P H ext mt ops (⟨x,op,ty,p,af,g⟩::l) R B K)):HM m r (WO P H ext mt ops (⟨x,op,ty,p,af,g⟩::l) R B K):=h
theorem aN(h:HM m r (K R B [])):HM m r (WO P H ext mt ops [] R B K):= .i sN h
theorem aK{j:Nat×Bool}(h:HM m r (WO P H ext mt ops l ((d,.undef)::R) B fun q k ts=>K q k (⟨[],[]⟩::ts)))
  (hw:og ops (A R B) ⟨some d,op,ty,p,af,some j⟩=some false:=by exact rfl):HM m r (WO P H ext mt ops (⟨some d,op,ty,p,af,some j⟩::l) R B K):= .i (fun e=>sK e hw) h
theorem aM{x:Operand}{v v':RV}(h:HM m r (WO P H ext mt ops l ((d,v')::R) B fun k j ts=>K k j (⟨[],[]⟩::ts)))(u:(A R B).opd x=some v:=by exact rfl)(q:v=v':=by exact nfA)(hw:og ops (A R B) ⟨some d,.move x,ty,p,af,g⟩=some true:=by exact rfl):HM m r (WO P H ext mt ops (⟨some d,.move x,ty,p,af,g⟩::l) R B K):=
 .i (fun e=>sM (q▸u) e hw) h
theorem aA{x:Operand}{v v':RV}(h:HM m r (WO P H ext mt ops l ((d,v')::R) B fun k j ts=>K k j (⟨[],[]⟩::ts)))(u:(A R B).opd x=some v:=by exact rfl)(q:v=v':=by exact nfA)(hw:og ops (A R B) ⟨some d,.assign x,ty,p,af,g⟩=some true:=by exact rfl):HM m r (WO P H ext mt ops (⟨some d,.assign x,ty,p,af,g⟩::l) R B K):=
 .i (fun e=>sA (q▸u) e hw) h
theorem aL{t:TypeId}{a:Operand}{id:Nat}{v:RV}(h:HM m r (WO P H ext mt ops l ((d,v)::R) B fun k j ts=>K k j (⟨[id],[]⟩::ts)))(hc:cellW P t ((A R B).opd a) (assoc B)=some (id,v):=by exact rfl)(hw:og ops (A R B) ⟨some d,.load t a,ty,p,af,g⟩=some true:=by exact rfl):HM m r (WO P H ext mt ops (⟨some d,.load t a,ty,p,af,g⟩::l) R B K):=
 .i (fun e=>sL hc e hw) h
theorem aV{v v':RV}{rd:List Nat}(h:HM m r (WO P H ext mt ops l ((d,v')::R) B fun k j ts=>K k j (⟨rd,[]⟩::ts)))
  (he:∀n,rN P mt (sI P H ext n) (A R B) ⟨some d,op,ty,p,af,g⟩ (assoc B)=some ((v,[]),rd,true):=by exact fun _=>rfl) (q:v=v':=by exact nfA) (hw:og ops (A R B) ⟨some d,op,ty,p,af,g⟩=some true:=by exact rfl):HM m r (WO P H ext mt ops (⟨some d,op,ty,p,af,g⟩::l) R B K):=
 .i (fun e=>sE v' q e he hw) h
theorem aZ{α:Type}{q:α->PD}{li:List α}{rd:List Nat}{c:Call}(h:HM m r (WO P H ext mt ops l ((d,.d (.int .i64 (li.length:Nat)))::R) B fun k j ts=>K k j (⟨rd,[]⟩::ts)))
  (he:∀n,rN P mt (sI P H ext n) (A R B) ⟨some d,.call c,ty,p,af,g⟩ (assoc B)=some ((.d (.int .i64 ((li.map q).length:Nat)),[]),rd,true):=by exact fun _=>rfl) (hw:og ops (A R B) ⟨some d,.call c,ty,p,af,g⟩=some true:=by exact rfl):HM m r (WO P H ext mt ops (⟨some d,.call c,ty,p,af,g⟩::l) R B K):=
 .i (fun e=>sE _ (sx _ _) e he hw) h
theorem aF{t:Bool}{a b:Option β}{rd:List Nat}(h1:HU a r (WO P H ext mt ops l ((d,.d (.bool true))::R) B fun k j ts=>K k j (⟨rd,[]⟩::ts)))(q:HU b r (WO P H ext mt ops l ((d,.d (.bool false))::R) B fun k j ts=>K k j (⟨rd,[]⟩::ts)))
  (he:∀n,rN P mt (sI P H ext n) (A R B) ⟨some d,op,ty,p,af,g⟩ (assoc B)=some ((.d (.bool t),[]),rd,true):=by exact fun _=>rfl) (hw:og ops (A R B) ⟨some d,op,ty,p,af,g⟩=some true:=by exact rfl):HF t a b r (WO P H ext mt ops (⟨some d,op,ty,p,af,g⟩::l) R B K):=
 fun e=>sF e h1 q he hw
theorem aFk{t:Bool}{a b:Option β}(h1:HU a r (WO P H ext mt ops l ((d,.d (.bool true))::R) B fun k j ts=>K k j (⟨[],[]⟩::ts)))(C:HU b r (WO P H ext mt ops l ((d,.d (.bool false))::R) B fun k j ts=>K k j (⟨[],[]⟩::ts)))
  {q:BinOp} {t1 t2:TypeId} {x y:Operand} {u v:RV} (D:(A R B).opd x=some u:=by exact rfl) (E:(A R B).opd y=some v:=by exact rfl) (he:xV P q t1 u v=some (.bool t,true):=by kernel_rfl) (hw:og ops (A R B) ⟨some d,.binOp q t1 x y t2,ty,p,af,g⟩=some true:=by exact rfl):HF t a b r (WO P H ext mt ops (⟨some d,.binOp q t1 x y t2,ty,p,af,g⟩::l) R B K):=
 fun e=>sF e h1 C (fun n=>by simp only [rN,D,E,Aa,he];rfl) hw
theorem fill_nil{pl:Nat->Option (Nat×Nat)}{cs:List RV}:uN pl cs []=some cs:=rfl
theorem nfK{x n:Nat}(h:x=n:=by exact @rfl Nat (OfNat.ofNat _)):x=n:=h
theorem Dt{pl:Nat->Option (Nat×Nat)}{cs u out:List RV}{i off j k:Nat}{v:RV}{q:List (Nat×RV)}(hp:pl i=some (j,k))(ho:j=off)(hc:decide (v.cells.length=k∧off+k<=cs.length)=true)(hs:setCells cs off v.cells=u)(h:uN pl u q=some out):uN pl cs ((i,v)::q)=some out:=by
 subst ho
 simp only [uN,hp,of_decide_eq_true hc,and_self,if_true,hs,h]
theorem nfF{pl:Nat->Option (Nat×Nat)}{cs out:List RV}{q:List (Nat×RV)}(h:uN pl cs q=some out:=by repeat' (first|with_reducible exact fill_nil|(apply Dt;(case hp=>exact rfl);(case ho=>exact nfK);(case hc=>kernel_rfl);(case hs=>exact nfA)))):uN pl cs q=some out:=h
theorem aP{t:TypeId}{parts:Array (Nat×Operand)}{q:List (Nat×RV)}{k:Array Field}{z:Value}{j cs:List RV}{v:RV}(h:HM m r (WO P H ext mt ops l ((d,v)::R) B fun C u ts=>K C u (⟨[],[]⟩::ts)))
  (F:tB (A R B) parts.toList=some q:=by exact rfl) (hu:P.underlying t=some (.struct k):=by exact rfl) (G:sr P t=some z:=by exact rfl) (E:(k.toList.all fun f=>(szT P f.type).isSome)=true:=by exact rfl) (D:(sn z).cells=j:=by exact nfA) (hf:uN (AK P k) j q=some cs:=by exact nfF) (hs:tU q=true:=by kernel_rfl) (hm:A9 cs=v:=by exact nfA)
  (hw:og ops (A R B) ⟨some d,.build t parts,ty,p,af,g⟩=some true:=by exact rfl):HM m r (WO P H ext mt ops (⟨some d,.build t parts,ty,p,af,g⟩::l) R B K):=
 .i (fun e=>sE v hm e (fun n=>by simp only [rN,F,xc,hu,G,E,if_true,D,hf,se,M.rG,hs]) hw) h
theorem aT{rd:List Nat}{o t y x z}(h:HM m r (WO P H ext mt ops l ((d,.d (.bool true))::R) B fun k j ts=>K k j (⟨rd,[]⟩::ts)))
  (he:∀n,rN P mt (sI P H ext n) (A R B) ⟨some d,.binOp o t y x z,ty,p,af,g⟩ (assoc B)=some ((.d (.bool true),[]),rd,true):=by exact fun _=>rfl) (hw:og ops (A R B) ⟨some d,.binOp o t y x z,ty,p,af,g⟩=some true:=by exact rfl):HM m r (WO P H ext mt ops (⟨some d,.binOp o t y x z,ty,p,af,g⟩::l) R B K):= .i (fun e=>sT e he hw) h
theorem aU{rd:List Nat}{o t y x z}(h:HM m r (WO P H ext mt ops l ((d,.d (.bool false))::R) B fun k j ts=>K k j (⟨rd,[]⟩::ts)))
  (he:∀n,rN P mt (sI P H ext n) (A R B) ⟨some d,.binOp o t y x z,ty,p,af,g⟩ (assoc B)=some ((.d (.bool false),[]),rd,true):=by exact fun _=>rfl) (hw:og ops (A R B) ⟨some d,.binOp o t y x z,ty,p,af,g⟩=some true:=by exact rfl):HM m r (WO P H ext mt ops (⟨some d,.binOp o t y x z,ty,p,af,g⟩::l) R B K):= .i (fun e=>sU e he hw) h
theorem aB{v:RV}{id:Nat}{k j:Box}{rd:List Nat}(h:HM m r (WO P H ext mt ops l ((d,v)::R) ((id,j)::B) fun u q ts=>K u q (⟨rd,[id]⟩::ts)))
  (he:∀n,rN P mt (sI P H ext n) (A R B) ⟨some d,op,ty,p,af,g⟩ (assoc B)=some ((v,[(id,k)]),rd,true):=by exact fun _=>rfl) (hc:k=j:=by exact nfA) (hw:og ops (A R B) ⟨some d,op,ty,p,af,g⟩=some true:=by exact rfl):HM m r (WO P H ext mt ops (⟨some d,op,ty,p,af,g⟩::l) R B K):=
 .i (fun e=>sB v id j e (hc▸he) hw) h
theorem aW{t:TypeId}{k j:Box}{rd:List Nat}(h:HM m r (WO P H ext mt ops l ((d,.ptr (d*16) 0)::R) ((d*16,j)::B) fun u q ts=>K u q (⟨rd,[d*16]⟩::ts)))
  (he:∀n,rN P mt (sI P H ext n) (A R B) ⟨some d,.alloc t,ty,p,af,g⟩ (assoc B)=some ((.ptr (d*16) 0,[(d*16,k)]),rd,true):=by exact fun _=>rfl) (hc:k=j:=by exact nfA) (hw:og ops (A R B) ⟨some d,.alloc t,ty,p,af,g⟩=some true:=by exact rfl):HM m r (WO P H ext mt ops (⟨some d,.alloc t,ty,p,af,g⟩::l) R B K):=
 .i (fun e=>sB _ _ j e (hc▸he) hw) h
theorem aX{t:TypeId}{y:Operand}{k j:Box}{rd:List Nat}(h:HM m r (WO P H ext mt ops l ((d,.ptr (d*16) 0)::R) ((d*16,j)::B) fun u q ts=>K u q (⟨rd,[d*16]⟩::ts)))
  (he:∀n,rN P mt (sI P H ext n) (A R B) ⟨some d,.box t y,ty,p,af,g⟩ (assoc B)=some ((.ptr (d*16) 0,[(d*16,k)]),rd,true):=by exact fun _=>rfl) (hc:k=j:=by exact nfA) (hw:og ops (A R B) ⟨some d,.box t y,ty,p,af,g⟩=some true:=by exact rfl):HM m r (WO P H ext mt ops (⟨some d,.box t y,ty,p,af,g⟩::l) R B K):=
 .i (fun e=>sB _ _ j e (hc▸he) hw) h
theorem aY{t:TypeId}{n:Nat}{parts:Array (Nat×Operand)}{k j:Box}{rd:List Nat}(h:HM m r (WO P H ext mt ops l ((d,.ref (d*16) 0)::R) ((d*16,j)::B) fun u q ts=>K u q (⟨rd,[d*16]⟩::ts)))
  (he:∀C,rN P mt (sI P H ext C) (A R B) ⟨some d,.buildSlice t n parts,ty,p,af,g⟩ (assoc B)=some ((.ref (d*16) 0,[(d*16,k)]),rd,true):=by exact fun _=>rfl) (hc:k=j:=by exact nfA) (hw:og ops (A R B) ⟨some d,.buildSlice t n parts,ty,p,af,g⟩=some true:=by exact rfl):HM m r (WO P H ext mt ops (⟨some d,.buildSlice t n parts,ty,p,af,g⟩::l) R B K):=
 .i (fun e=>sB _ _ j e (hc▸he) hw) h
theorem aS{id:Nat}{cs j:List RV}{rd:List Nat}(h:HM m r (WO P H ext mt ops l R ((id,.var j)::B) fun q k ts=>K q k (⟨rd,[id]⟩::ts)))
  (he:∀n,rN P mt (sI P H ext n) (A R B) ⟨none,op,ty,p,af,g⟩ (assoc B)=some ((.undef,[(id,.var cs)]),rd,true):=by exact fun _=>rfl) (hc:cs=j:=by exact nfA) (hw:og ops (A R B) ⟨none,op,ty,p,af,g⟩=some true:=by exact rfl):HM m r (WO P H ext mt ops (⟨none,op,ty,p,af,g⟩::l) R B K):=
 .i (fun e=>sS id (.var j) e (hc▸he) hw) h
theorem HB.n{α:Type}{c:Option α}{k:α->Option β}{G:Prop}(h:∀x,c=some x->HU (k x) r G):HB c k r G:=fun e=>oh e h
theorem aC{f:FuncId}{args as:List RV}{u:List Nat}{q:RV}{j:List RV}{α:Type}{c:Option α}{x:α}{k:α->RV×List Box}(L:c=some x) [F:CE P H ext c f j [] k]
  (h:HU m r (WO P H ext mt ops l ((d,q)::R) B fun D C ts=>K D C (⟨u++([]++([]++([]++[]))),[]⟩::ts)))
  (I:k x=(q,[]):=by exact rfl) (he:∀call,rN P mt call (A R B) ⟨some d,op,ty,p,af,g⟩ (assoc B)=uc mt.by_ call f (d*16) args (assoc B):=by exact fun _=>rfl) (E:wi (mt.by_ f) 0 args (assoc B)=some ((as,[]),u,true):=by exact rfl) (G:as.flatMap Ay=[]:=by exact rfl) (has:as.map (tD (uZ [] []))=j:=by exact rfl) (J:tD (xw [] [] []) q=q:=by exact rfl) (hw:og ops (A R B) ⟨some d,op,ty,p,af,g⟩=some true:=by exact rfl):HU m r (WO P H ext mt ops (⟨some d,op,ty,p,af,g⟩::l) R B K):=
 fun e=>cD (I▸F.ev L) (h e) he E G has J hw
theorem aD{f:FuncId}{args as:List RV}{ids N O rg E:List Nat}{J:Ups}{j C D:List Box}{n:Nat}{q:RV}{k:List RV}{v:RV}{u:Ups}{F:List (Nat×Box)}{α:Type}{c:Option α}{x:α}{L:α->RV×List Box}(hx:c=some x) [X:CE P H ext c f k C L]
  (h:HU m r (WO P H ext mt ops l ((d,v)::R) F fun T F ts=>K T F (⟨N++(O++(rg++(E++[]))),u.map (·.1)⟩::ts)))
  (hq:L x=(q,D):=by exact rfl) (he:∀call,rN P mt call (A R B) ⟨some d,op,ty,p,af,g⟩ (assoc B)=uc mt.by_ call f (d*16) args (assoc B):=by exact fun _=>rfl) (U:wi (mt.by_ f) 0 args (assoc B)=some ((as,J),N,true):=by exact rfl) (hI:uJ 64 [] (as.flatMap Ay) (assoc B)=some (ids,O,true):=by exact rfl) (Y:wY ids (assoc B)=some (j,rg,true):=by exact rfl) (has:as.map (tD (uZ ids j))=k:=by exact rfl) (I:j.map (uB (uZ ids j) fun _=>0)=C:=by exact rfl)
  (G:D.length=n:=by exact rfl) (hc:(decide (ids.length<=n)&&(nodup ids&&Ak ids (J.map (·.1))))=true:=by exact rfl) (hV:tX (tT (d*16) (n-ids.length)) (assoc B)=some ((),E,true):=by exact rfl) (hr:tD (xw (ids++tT (d*16) (n-ids.length)) j D) q=v:=by exact nfA)
  (hu:Ae J ids D q (xu (ids++tT (d*16) (n-ids.length)) j D)=u:=by exact nfA) (W:xN u B=F:=by exact rfl) (hw:og ops (A R B) ⟨some d,op,ty,p,af,g⟩=some true:=by exact rfl):HU m r (WO P H ext mt ops (⟨some d,op,ty,p,af,g⟩::l) R B K):=
 fun e=>cR v u (hq▸X.ev hx) (W▸h e) he U hI Y has I (G▸hc) (G▸hV) (G▸hr) (G▸hu) hw
end
section
variable {β:Type}{m:Option β}{r:β}{P:Program}{H:Hints}{ext:FuncId->Option rO}{f:FuncId}{nb:Nat}{R:List (Nat×RV)}{B:List (Nat×Box)}{Q:Ex->List (Nat×RV)->List (Nat×Box)->Prop}{id:Nat}{ops:Array Oper}{l:List Oper}{R0 R1:List (Nat×RV)}{B0 B1:List (Nat×Box)}{b:Code}
theorem kC{c:Code}(h:HM m r (WC P H ext f nb c R B Q)):HM m r (WC P H ext f nb c R B Q):=h
theorem kE{X Y:Prop}(h:HM m r (X∧Y)):HM m r (X∧Y):=h
theorem aG0(h:HM m r (WO P H ext (H.hf f) ops l R B fun k j _=>WC P H ext f nb b k j Q))(q:H.at_ f nb id=[]:=by exact rfl)(hl:ops=l.toArray:=by exact rfl):
  HM m r (WC P H ext f nb (.seq (.region id ops false) b) R B Q):= .i (WC.tu (by rw [q];rfl) (by rw [hl])) h
theorem aG(h:HM m r (WO P H ext (H.hf f) ops l R0 B0 fun k j _=>WC P H ext f nb b k j Q))(C:rJ P nb (A R B) (H.at_ f nb id)=some (A R1 B1):=by exact rfl)(u:R1=R0:=by exact nfA)(q:B1=B0:=by exact nfA)(hl:ops=l.toArray:=by exact rfl):
  HM m r (WC P H ext f nb (.seq (.region id ops false) b) R B Q):= .i (WC.tu (u▸q▸C) (by rw [hl])) h
theorem aGD0(h:HM m r (WO P H ext (H.hf f) ops l R B fun k j ts=>u9 ops ts=true∧WC P H ext f nb b k j Q))(q:H.at_ f nb id=[]:=by exact rfl)(hl:ops=l.toArray:=by exact rfl):
  HM m r (WC P H ext f nb (.seq (.region id ops true) b) R B Q):= .i (WC.pe (by rw [q];rfl) (by rw [hl])) h
theorem aGD(h:HM m r (WO P H ext (H.hf f) ops l R0 B0 fun k j ts=>u9 ops ts=true∧WC P H ext f nb b k j Q))(C:rJ P nb (A R B) (H.at_ f nb id)=some (A R1 B1):=by exact rfl)(u:R1=R0:=by exact nfA)(q:B1=B0:=by exact nfA)(hl:ops=l.toArray:=by exact rfl):
  HM m r (WC P H ext f nb (.seq (.region id ops true) b) R B Q):= .i (WC.pe (u▸q▸C) (by rw [hl])) h
theorem aH0(h:HM m r (WO P H ext (H.hf f) ops l R B fun k j _=>Q .normal k j))(q:H.at_ f nb id=[]:=by exact rfl)(hl:ops=l.toArray:=by exact rfl):
  HM m r (WC P H ext f nb (.region id ops false) R B Q):= .i (WC.region (by rw [q];rfl) (by rw [hl])) h
theorem aH(h:HM m r (WO P H ext (H.hf f) ops l R0 B0 fun k j _=>Q .normal k j))(C:rJ P nb (A R B) (H.at_ f nb id)=some (A R1 B1):=by exact rfl)(u:R1=R0:=by exact nfA)(q:B1=B0:=by exact nfA)(hl:ops=l.toArray:=by exact rfl):
  HM m r (WC P H ext f nb (.region id ops false) R B Q):= .i (WC.region (u▸q▸C) (by rw [hl])) h
theorem aHD0(h:HM m r (WO P H ext (H.hf f) ops l R B fun k j ts=>u9 ops ts=true∧Q .normal k j))(q:H.at_ f nb id=[]:=by exact rfl)(hl:ops=l.toArray:=by exact rfl):
  HM m r (WC P H ext f nb (.region id ops true) R B Q):= .i (WC.tn (by rw [q];rfl) (by rw [hl])) h
theorem aHD(h:HM m r (WO P H ext (H.hf f) ops l R0 B0 fun k j ts=>u9 ops ts=true∧Q .normal k j))(C:rJ P nb (A R B) (H.at_ f nb id)=some (A R1 B1):=by exact rfl)(u:R1=R0:=by exact nfA)(q:B1=B0:=by exact nfA)(hl:ops=l.toArray:=by exact rfl):
  HM m r (WC P H ext f nb (.region id ops true) R B Q):= .i (WC.tn (u▸q▸C) (by rw [hl])) h
def QS(P:Program)(H:Hints)(ext:FuncId->Option rO)(f:FuncId)(nb:Nat)(b:Code)(Q:Ex->List (Nat×RV)->List (Nat×Box)->Prop)(e:Ex)(R:List (Nat×RV))(B:List (Nat×Box)):Prop:=match e with| .normal=>WC P H ext f nb b R B Q|e=>Q e R B
def QB(id:Nat)(Q:Ex->List (Nat×RV)->List (Nat×Box)->Prop)(e:Ex)(R:List (Nat×RV))(B:List (Nat×Box)):Prop:=match e with| .exit j=>(j=id->Q .normal R B)∧(j≠id->Q (.exit j) R B)|e=>Q e R B
def QW(P:Program)(H:Hints)(ext:FuncId->Option rO)(f:FuncId)(nb:Nat)(b:Code)(Q:Ex->List (Nat×RV)->List (Nat×Box)->Prop)(e:Ex)(R:List (Nat×RV))(B:List (Nat×Box)):Prop:=match e with| .normal=>WL P H ext f nb b R B Q|e=>Q e R B
theorem aRl(h:HM m r (WL P H ext f nb b R B Q)):HM m r (WC P H ext f nb (.loop b) R B Q):= .i WC.loop h
theorem aRr(h:HM m r (WC P H ext f nb b R B (QW P H ext f nb b Q))):HM m r (WL P H ext f nb b R B Q):= .i (fun h=>WL.round h) h
theorem aWn(h:HM m r (WL P H ext f nb b R B Q)):HM m r (QW P H ext f nb b Q .normal R B):=h
theorem aWr(h:HM m r (Q .ret R B)):HM m r (QW P H ext f nb b Q .ret R B):=h
theorem aWx(h:HM m r (Q (.exit id) R B)):HM m r (QW P H ext f nb b Q (.exit id) R B):=h
theorem aQ{a:Code}(h:HM m r (WC P H ext f nb a R B (QS P H ext f nb b Q))):HM m r (WC P H ext f nb (.seq a b) R B Q):= .i (fun h=>qS h) h
theorem aQn(h:HM m r (WC P H ext f nb b R B Q)):HM m r (QS P H ext f nb b Q .normal R B):=h
theorem aQr(h:HM m r (Q .ret R B)):HM m r (QS P H ext f nb b Q .ret R B):=h
theorem aQx(h:HM m r (Q (.exit id) R B)):HM m r (QS P H ext f nb b Q (.exit id) R B):=h
theorem aO(h:HM m r (WC P H ext f nb b R B (QB id Q))):HM m r (WC P H ext f nb (.block id b) R B Q):= .i (fun h=>qB h) h
theorem aOn(h:HM m r (Q .normal R B)):HM m r (QB id Q .normal R B):=h
theorem aOr(h:HM m r (Q .ret R B)):HM m r (QB id Q .ret R B):=h
theorem aOx(h:HM m r (Q .normal R B)):HM m r (QB id Q (.exit id) R B):= .i (fun h=>⟨fun _=>h,fun j=>(j rfl).elim⟩) h
theorem aOy{j:Nat}(h:HM m r (Q (.exit j) R B))(k:j≠id:=by decide):HM m r (QB id Q (.exit j) R B):= .i (fun h=>⟨fun e=>(k e).elim,fun _=>h⟩) h
theorem aI{c:Operand}{a:Code}{t:Bool}{x y:Option β}(h1:HU x r (WC P H ext f nb a R B Q))(k:HU y r (WC P H ext f nb b R B Q))(hc:(A R B).opd c=some (.d (.bool t)):=by exact rfl):HF t x y r (WC P H ext f nb (.cond c a b) R B Q):=
 fun e=>u4 e (fun j e=>WC.condT' j hc (h1 e)) (fun j e=>WC.condF' j hc (k e))
def WCI(P:Program)(H:Hints)(ext:FuncId->Option rO)(f nb:Nat)(c:Code)(hid:Nat)(R0:List (Nat×RV))(B0:List (Nat×Box))(Q:Ex->List (Nat×RV)->List (Nat×Box)->Prop):Prop:=∀k j,rJ P nb (A k j) (H.at_ f nb hid)=some (A R0 B0)->WC P H ext f nb c k j Q
def QI(P:Program)(H:Hints)(f nb:Nat)(j:Nat)(R0:List (Nat×RV))(B0:List (Nat×Box))(Q:Ex->List (Nat×RV)->List (Nat×Box)->Prop):Prop:=∀q k,rJ P nb (A q k) (H.at_ f nb j)=some (A R0 B0)->Q .normal q k
theorem kI{c:Code}{hid:Nat}(h:HM m r (WCI P H ext f nb c hid R0 B0 Q)):HM m r (WCI P H ext f nb c hid R0 B0 Q):=h
theorem iG(h:HM m r (WO P H ext (H.hf f) ops l R1 B1 fun k j _=>WC P H ext f nb b k j Q))(C:R0=R1:=by exact nfA)(q:B0=B1:=by exact nfA)(hl:ops=l.toArray:=by exact rfl):HM m r (WCI P H ext f nb (.seq (.region id ops false) b) id R0 B0 Q):=
 fun e k j u=>WC.tu (C▸q▸u) (by rw [hl]) (h e)
theorem iGD(h:HM m r (WO P H ext (H.hf f) ops l R1 B1 fun k j ts=>u9 ops ts=true∧WC P H ext f nb b k j Q))(C:R0=R1:=by exact nfA)(q:B0=B1:=by exact nfA)(hl:ops=l.toArray:=by exact rfl):HM m r (WCI P H ext f nb (.seq (.region id ops true) b) id R0 B0 Q):=
 fun e k j u=>WC.pe (C▸q▸u) (by rw [hl]) (h e)
theorem iH(h:HM m r (WO P H ext (H.hf f) ops l R1 B1 fun k j _=>Q .normal k j))(C:R0=R1:=by exact nfA)(q:B0=B1:=by exact nfA)(hl:ops=l.toArray:=by exact rfl):HM m r (WCI P H ext f nb (.region id ops false) id R0 B0 Q):=
 fun e k j u=>WC.region (C▸q▸u) (by rw [hl]) (h e)
theorem iHD(h:HM m r (WO P H ext (H.hf f) ops l R1 B1 fun k j ts=>u9 ops ts=true∧Q .normal k j))(C:R0=R1:=by exact nfA)(q:B0=B1:=by exact nfA)(hl:ops=l.toArray:=by exact rfl):HM m r (WCI P H ext f nb (.region id ops true) id R0 B0 Q):=
 fun e k j u=>WC.tn (C▸q▸u) (by rw [hl]) (h e)
theorem iQ{a:Code}{hid:Nat}(h:HM m r (WCI P H ext f nb a hid R0 B0 (QS P H ext f nb b Q))):HM m r (WCI P H ext f nb (.seq a b) hid R0 B0 Q):=fun e k j q=>qS (h e k j q)
theorem iO{hid:Nat}(h:HM m r (WCI P H ext f nb b hid R0 B0 (QB id Q))):HM m r (WCI P H ext f nb (.block id b) hid R0 B0 Q):=fun e k j q=>qB (h e k j q)
theorem iS{hid:Nat}(h:HM m r (WCI P H ext f nb b hid R0 B0 Q)):HM m r (WCI P H ext f nb (.scope b) hid R0 B0 Q):=fun e k j q=>WC.scope (h e k j q)
theorem iK{hid:Nat}(h:HM m r (WCI P H ext f nb b hid R0 B0 Q)):HM m r (WCI P H ext f nb (.seq .skip b) hid R0 B0 Q):=fun e k j q=>WC.seq (WC.skip (h e k j q))
theorem jS{hid:Nat}(h:HM m r (WCI P H ext f nb b hid R0 B0 Q)):HM m r (QI P H f nb hid R0 B0 (QS P H ext f nb b Q)):=h
theorem jB{hid:Nat}(h:HM m r (QI P H f nb hid R0 B0 Q)):HM m r (QI P H f nb hid R0 B0 (QB id Q)):=h
theorem jE{hid:Nat}(h:∀k j,rJ P nb (A k j) (H.at_ f nb hid)=some (A R0 B0)->HM m r (Q .normal k j)):HM m r (QI P H f nb hid R0 B0 Q):=fun e k j q=>h k j q e
theorem aJ{σ ω:Type}{body:σ->Option (gB σ ω)}{hid:Nat}{IR:SR σ}{u:SB σ}{J:JT ω} [LI body hid IR u J] {s0:σ}{k:ω->Option β}{F:List (Nat×RV)}{E:List (Nat×Box)}
  (h1:∀s x,HU (body s) x (WCI P H ext f nb b hid (upL (IR s) R1) (upL (u s) B1) (QL x (fun s q j=>rJ P nb (A q j) (H.at_ f nb hid)=some (A (upL (IR s) R1) (upL (u s) B1))) (J P H f nb id R1 B1))))
  (L:∀o e q j,J P H f nb id R1 B1 o e q j->HU (k o) r (QB id Q e q j))
  (I:rJ P nb (A R B) (H.at_ f nb hid)=some (A F E):=by exact rfl) (T:F=R1:=by exact nfA) (N:E=B1:=by exact nfA) (D:upL (IR s0) R1=R1:=by exact rfl) (C:upL (u s0) B1=B1:=by exact rfl):HB (cI body s0) k r (WC P H ext f nb (.block id (.loop b)) R B Q):=
 fun e=>oh e fun o ho e=>WC.block (WC.loop (WL.rU ho (fun s q j=>rJ P nb (A q j) (H.at_ f nb hid)=some (A (upL (IR s) R1) (upL (u s) B1))) (J P H f nb id R1 B1) (by rw [D,C, <-T, <-N];exact I) (fun s q j x O U=>h1 s x U q j O) fun G q j _ W=>L o G q j W e))
theorem aJX{ω:Type}{j:Nat}{D:SR ω}{C:SB ω}{k:ω->Option β}{Q:Ex->List (Nat×RV)->List (Nat×Box)->Prop}(h:∀o,HU (k o) r (QI P H f nb j (seL (keepR (H.at_ f nb j)) (upL (D o) R1)) (seL (keepB (H.at_ f nb j)) (upL (C o) B1)) Q)):∀o e u q,jX j D C P H f nb id R1 B1 o e u q->HU (k o) r (QB id Q e u q):=by
 rintro o e u q ⟨rfl,E⟩ hk
 exact⟨fun _=>h o hk u q E,fun F=>(F rfl).elim⟩
theorem aJR{ω:Type}{fn:Func}{E:ω->RV×List Box}{k:ω->Option β}{Q:Ex->List (Nat×RV)->List (Nat×Box)->Prop}(h:∀o q j,finish P (H.own f) fn nb (A q j)=some (E o)->HU (k o) r (Q .ret q j)):∀o e q j,jR fn E P H f nb id R1 B1 o e q j->HU (k o) r (QB id Q e q j):=by
 rintro o e q j ⟨rfl,u⟩ hk
 exact h o q j u hk
theorem aJY{υ ω:Type}{j:Nat}{D:SR υ}{C:SB υ}{fn:Func}{E:ω->RV×List Box}{k:υ⊕ω->Option β}{Q:Ex->List (Nat×RV)->List (Nat×Box)->Prop}(h:∀o,HU (k (.inl o)) r (QI P H f nb j (seL (keepR (H.at_ f nb j)) (upL (D o) R1)) (seL (keepB (H.at_ f nb j)) (upL (C o) B1)) Q))
  (F:∀o u q,finish P (H.own f) fn nb (A u q)=some (E o)->HU (k (.inr o)) r (Q .ret u q)):∀o e u q,jY j D C fn E P H f nb id R1 B1 o e u q->HU (k o) r (QB id Q e u q)
 | .inl o=>aJX (k:=fun o=>k (.inl o)) h o
 | .inr o=>aJR (R1:=R1) (B1:=B1) (k:=fun o=>k (.inr o)) F o
theorem aE{ts:List Tr}{X:Prop}(h:HM m r X)(ho:u9 ops ts=true:=by kernel_rfl):HM m r (u9 ops ts=true∧X):= .i (fun h=>sO h ho) h
end
section
variable {β:Type}{r0:β}{P:Program}{H:Hints}{ext:FuncId->Option rO}{mt:Hf}{ops:Array Oper}{l:List Oper}{R:List (Nat×RV)}{B:List (Nat×Box)}{K:List (Nat×RV)->List (Nat×Box)->List Tr->Prop}{o:Oper}{d:Nat}
theorem bRemG{t t':TypeId}{x y:Operand}{k k':IntKind}{a b:Int}{u:(Int)->Option β}
  (h:∀r,HU (u r) r0 (WO P H ext mt ops l ((d,.d (.int k r))::R) B fun D C ts=>K D C (⟨[],[]⟩::ts)))
  (ho:o.op= .binOp .rem t x y t':=by exact rfl) (E:o.dst=some d:=by exact rfl) (hw:og ops (A R B) o=some true:=by exact rfl) (F:(A R B).opd x=some (.d (.int k a)):=by exact rfl) (G:(A R B).opd y=some (.d (.int k' b)):=by exact rfl) (hk:k=k':=by exact rfl):HB (w5 a b) u r0 (WO P H ext mt ops (o::l) R B K):=
 fun j=>oh j fun r q j=>WO.remG q hw E ho F G hk (h r j)
theorem bQuoG{t t':TypeId}{x y:Operand}{k k':IntKind}{a b:Int}{u:(Int)->Option β}
  (h:∀r,HU (u r) r0 (WO P H ext mt ops l ((d,.d (.int k r))::R) B fun D C ts=>K D C (⟨[],[]⟩::ts)))
  (ho:o.op= .binOp .quo t x y t':=by exact rfl) (E:o.dst=some d:=by exact rfl) (hw:og ops (A R B) o=some true:=by exact rfl) (F:(A R B).opd x=some (.d (.int k a)):=by exact rfl) (G:(A R B).opd y=some (.d (.int k' b)):=by exact rfl) (hk:k=k':=by exact rfl):HB (tI k a b) u r0 (WO P H ext mt ops (o::l) R B K):=
 fun j=>oh j fun r q j=>WO.quoG q hw E ho F G hk (h r j)
theorem bShlG{t t':TypeId}{x y:Operand}{k k':IntKind}{a b:Int}{u:(Int)->Option β}
  (h:∀r,HU (u r) r0 (WO P H ext mt ops l ((d,.d (.int k r))::R) B fun D C ts=>K D C (⟨[],[]⟩::ts)))
  (ho:o.op= .binOp .shl t x y t':=by exact rfl) (E:o.dst=some d:=by exact rfl) (hw:og ops (A R B) o=some true:=by exact rfl) (F:(A R B).opd x=some (.d (.int k a)):=by exact rfl) (G:(A R B).opd y=some (.d (.int k' b)):=by exact rfl):HB (yF k a b) u r0 (WO P H ext mt ops (o::l) R B K):=
 fun j=>oh j fun r q j=>WO.shlG q hw E ho F G (h r j)
theorem bShrG{t t':TypeId}{x y:Operand}{k k':IntKind}{a b:Int}{u:(Int)->Option β}
  (h:∀r,HU (u r) r0 (WO P H ext mt ops l ((d,.d (.int k r))::R) B fun D C ts=>K D C (⟨[],[]⟩::ts)))
  (ho:o.op= .binOp .shr t x y t':=by exact rfl) (E:o.dst=some d:=by exact rfl) (hw:og ops (A R B) o=some true:=by exact rfl) (F:(A R B).opd x=some (.d (.int k a)):=by exact rfl) (G:(A R B).opd y=some (.d (.int k' b)):=by exact rfl):HB (shrO k a b) u r0 (WO P H ext mt ops (o::l) R B K):=
 fun j=>oh j fun r q j=>WO.shrG q hw E ho F G (h r j)
theorem bElemG{α:Type}{g:α->PD}{li:List α}{t e:TypeId}{x i:Operand}{k:IntKind}{n:Int}{sz:Nat}{cs:(α)->List PD}{C:(α)->Option β}
  (h:∀y,HU (C y) r0 (WO P H ext mt ops l ((d,.cptr (cs y))::R) B fun E D ts=>K E D (⟨[],[]⟩::ts)))
  (ho:o.op= .indexAddr t x i:=by exact rfl) (hc:∀y,(g y).cells=(cs y):=by intro _;exact rfl) (F:o.dst=some d:=by exact rfl) (hw:og ops (A R B) o=some true:=by exact rfl) (I:(A R B).opd x=some (.d (.lst (li.map g))):=by exact rfl) (hi:(A R B).opd i=some (.d (.int k n)):=by exact rfl) (G:P.underlying t=some (.slice e):=by exact rfl) (J:szT P e=some sz:=by exact rfl) (q:∀y,(cs y).length=sz:=by intro _;exact rfl):HB (oc li n) C r0 (WO P H ext mt ops (o::l) R B K):=
 fun j=>oh j fun y u j=>WO.elemG u hw F ho I hi G J (hc y) (q y) (h y j)
theorem bElemGE{α:Type}{g:α->PD}{li:List α}{t e:TypeId}{x i:Operand}{k:IntKind}{n:Int}{sz:Nat}{cs:(α)->List PD} [EN α g] {C:(α)->Option β}
  (h:∀y,HU (C y) r0 (WO P H ext mt ops l ((d,.cptr (cs y))::R) B fun E D ts=>K E D (⟨[],[]⟩::ts)))
  (ho:o.op= .indexAddr t x i:=by exact rfl) (hc:∀y,(g y).cells=(cs y):=by intro _;exact rfl) (F:o.dst=some d:=by exact rfl) (hw:og ops (A R B) o=some true:=by exact rfl) (I:(A R B).opd x=some (.d (.lst (li.map g))):=by exact rfl) (hi:(A R B).opd i=some (.d (.int k n)):=by exact rfl) (G:P.underlying t=some (.slice e):=by exact rfl) (J:szT P e=some sz:=by exact rfl) (q:∀y,(cs y).length=sz:=by intro _;exact rfl):HB (oc li n) C r0 (WO P H ext mt ops (o::l) R B K):=
 fun j=>oh j fun y u j=>WO.elemG u hw F ho I hi G J (hc y) (q y) (h y j)
theorem bEltG{α:Type}{g:α->PD}{li:List α}{t e:TypeId}{x i:Operand}{k:IntKind}{n:Int}{id ver sz:Nat}{u:(Unit)->Option β}
  (h:∀y,HU (u y) r0 (WO P H ext mt ops l ((d,.elt id ver n.toNat 0)::R) B fun D C ts=>K D C (⟨[id],[]⟩::ts)))
  (ho:o.op= .indexAddr t x i:=by exact rfl) (F:o.dst=some d:=by exact rfl) (hw:og ops (A R B) o=some true:=by exact rfl) (I:(A R B).opd x=some (.ref id ver):=by exact rfl) (hi:(A R B).opd i=some (.d (.int k n)):=by exact rfl) (E:assoc B id=some (.arr ver e (li.map g)):=by exact rfl) (G:P.underlying t=some (.slice e):=by exact rfl) (J:szT P e=some sz:=by exact rfl):HB (inO li n) u r0 (WO P H ext mt ops (o::l) R B K):=
 fun j=>oh j fun y q j=>WO.tF q hw F ho I hi E G J (h y j)
theorem bEltGE{α:Type}{g:α->PD}{li:List α}{t e:TypeId}{x i:Operand}{k:IntKind}{n:Int}{id ver sz:Nat} [EN α g] {u:(Unit)->Option β}
  (h:∀y,HU (u y) r0 (WO P H ext mt ops l ((d,.elt id ver n.toNat 0)::R) B fun D C ts=>K D C (⟨[id],[]⟩::ts)))
  (ho:o.op= .indexAddr t x i:=by exact rfl) (F:o.dst=some d:=by exact rfl) (hw:og ops (A R B) o=some true:=by exact rfl) (I:(A R B).opd x=some (.ref id ver):=by exact rfl) (hi:(A R B).opd i=some (.d (.int k n)):=by exact rfl) (E:assoc B id=some (.arr ver e (li.map g)):=by exact rfl) (G:P.underlying t=some (.slice e):=by exact rfl) (J:szT P e=some sz:=by exact rfl):HB (inO li n) u r0 (WO P H ext mt ops (o::l) R B K):=
 fun j=>oh j fun y q j=>WO.tF q hw F ho I hi E G J (h y j)
theorem bLoadE{α:Type}{g:α->PD}{li:List α}{t e:TypeId}{a:Operand}{n:Int}{id ver off:Nat}{v:(α)->RV}{q:(α)->Option β}
  (h:∀y,HU (q y) r0 (WO P H ext mt ops l ((d,(v y))::R) B fun C u ts=>K C u (⟨[id],[]⟩::ts)))
  (ho:o.op= .load t a:=by exact rfl) (D:(A R B).opd a=some (.elt id ver n.toNat off):=by exact rfl) (F:o.dst=some d:=by exact rfl) (hw:og ops (A R B) o=some true:=by exact rfl) (E:assoc B id=some (.arr ver e (li.map g)):=by exact rfl) (G:∀y,uG P t ((g y).cells.drop off) (assoc B)=some (((v y),[]),[],true):=by intro _;exact rfl):HB (oc li n) q r0 (WO P H ext mt ops (o::l) R B K):=
 fun j=>oh j fun y k j=>WO.tg k hw F ho D E (G y) (h y j)
theorem bLoadEE{α:Type}{g:α->PD}{li:List α}{t e:TypeId}{a:Operand}{n:Int}{id ver off:Nat}{v:(α)->RV} [EN α g] {q:(α)->Option β}
  (h:∀y,HU (q y) r0 (WO P H ext mt ops l ((d,(v y))::R) B fun C u ts=>K C u (⟨[id],[]⟩::ts)))
  (ho:o.op= .load t a:=by exact rfl) (D:(A R B).opd a=some (.elt id ver n.toNat off):=by exact rfl) (F:o.dst=some d:=by exact rfl) (hw:og ops (A R B) o=some true:=by exact rfl) (E:assoc B id=some (.arr ver e (li.map g)):=by exact rfl) (G:∀y,uG P t ((g y).cells.drop off) (assoc B)=some (((v y),[]),[],true):=by intro _;exact rfl):HB (oc li n) q r0 (WO P H ext mt ops (o::l) R B K):=
 fun j=>oh j fun y k j=>WO.tg k hw F ho D E (G y) (h y j)
theorem bAppR{α:Type}{g:α->PD}{li m:List α}{t e:TypeId}{x y:Operand}{c:Call}{id ver sz by_:Nat}{z:Value}{F:(List α)->Option β}
  (h:∀r,HU (F r) r0 (WO P H ext mt ops l ((d,.ref id (ver+1))::R) ((id,.arr (ver+1) e (r.map g))::B) fun I G ts=>K I G (⟨[id],[id]⟩::ts)))
  (ho:o.op= .call c:=by exact rfl) (hc:c.callee= .builtin .append:=by exact rfl) (J:c.args.toList=[x,y]:=by exact rfl) (k:c.argTypes= #[t,t]:=by exact rfl) (N:o.dst=some d:=by exact rfl) (hw:og ops (A R B) o=some true:=by exact rfl) (T:(A R B).opd x=some (.ref id ver):=by exact rfl) (L:assoc B id=some (.arr ver e (li.map g)):=by exact rfl) (O:sD P t=some e:=by exact rfl) (W:szT P e=some (sz+1):=by exact rfl) (q:sP P e=some (by_+1):=by exact rfl) (U:(A R B).opd y=some (.d (.lst (m.map g))):=by exact rfl) (E:sr P e=some z:=by exact rfl) (D:z.cells.size=sz+1:=by exact rfl) (u:∀x,(g x).cells.length=sz+1:=by exact fun _=>rfl):HB (rR li m (by_+1)) F r0 (WO P H ext mt ops (o::l) R B K):=
 fun j=>oh j fun r C j=>WO.appR C u hw N ho hc J k T U L O W q E D (h r j)
theorem bAppRE{α:Type}{g:α->PD}{li m:List α}{t e:TypeId}{x y:Operand}{c:Call}{id ver sz by_:Nat}{z:Value} [EN α g] {F:(List α)->Option β}
  (h:∀r,HU (F r) r0 (WO P H ext mt ops l ((d,.ref id (ver+1))::R) ((id,.arr (ver+1) e (r.map g))::B) fun I G ts=>K I G (⟨[id],[id]⟩::ts)))
  (ho:o.op= .call c:=by exact rfl) (hc:c.callee= .builtin .append:=by exact rfl) (J:c.args.toList=[x,y]:=by exact rfl) (k:c.argTypes= #[t,t]:=by exact rfl) (N:o.dst=some d:=by exact rfl) (hw:og ops (A R B) o=some true:=by exact rfl) (T:(A R B).opd x=some (.ref id ver):=by exact rfl) (L:assoc B id=some (.arr ver e (li.map g)):=by exact rfl) (O:sD P t=some e:=by exact rfl) (W:szT P e=some (sz+1):=by exact rfl) (q:sP P e=some (by_+1):=by exact rfl) (U:(A R B).opd y=some (.d (.lst (m.map g))):=by exact rfl) (E:sr P e=some z:=by exact rfl) (D:z.cells.size=sz+1:=by exact rfl) (u:∀x,(g x).cells.length=sz+1:=by exact fun _=>rfl):HB (rR li m (by_+1)) F r0 (WO P H ext mt ops (o::l) R B K):=
 fun j=>oh j fun r C j=>WO.appR C u hw N ho hc J k T U L O W q E D (h r j)
theorem bAppN{α:Type}{g:α->PD}{m:List α}{t e:TypeId}{x y:Operand}{c:Call}{sz by_:Nat}{z:Value}{F:(List α)->Option β}
  (h:∀r,HU (F r) r0 (WO P H ext mt ops l ((d,.ref (d*16) 0)::R) ((d*16,.arr 0 e (r.map g))::B) fun I G ts=>K I G (⟨[d*16],[d*16]⟩::ts)))
  (ho:o.op= .call c:=by exact rfl) (hc:c.callee= .builtin .append:=by exact rfl) (J:c.args.toList=[x,y]:=by exact rfl) (k:c.argTypes= #[t,t]:=by exact rfl) (N:o.dst=some d:=by exact rfl) (hw:og ops (A R B) o=some true:=by exact rfl) (T:(A R B).opd x=some .rm:=by exact rfl) (L:assoc B (d*16)=none:=by exact rfl) (O:sD P t=some e:=by exact rfl) (W:szT P e=some (sz+1):=by exact rfl) (q:sP P e=some (by_+1):=by exact rfl) (U:(A R B).opd y=some (.d (.lst (m.map g))):=by exact rfl) (E:sr P e=some z:=by exact rfl) (D:z.cells.size=sz+1:=by exact rfl) (u:∀x,(g x).cells.length=sz+1:=by exact fun _=>rfl):HB (rR [] m (by_+1)) F r0 (WO P H ext mt ops (o::l) R B K):=
 fun j=>oh j fun r C j=>WO.appN C u hw N ho hc J k T U L O W q E D (h r j)
theorem bAppNE{α:Type}{g:α->PD}{m:List α}{t e:TypeId}{x y:Operand}{c:Call}{sz by_:Nat}{z:Value} [EN α g] {F:(List α)->Option β}
  (h:∀r,HU (F r) r0 (WO P H ext mt ops l ((d,.ref (d*16) 0)::R) ((d*16,.arr 0 e (r.map g))::B) fun I G ts=>K I G (⟨[d*16],[d*16]⟩::ts)))
  (ho:o.op= .call c:=by exact rfl) (hc:c.callee= .builtin .append:=by exact rfl) (J:c.args.toList=[x,y]:=by exact rfl) (k:c.argTypes= #[t,t]:=by exact rfl) (N:o.dst=some d:=by exact rfl) (hw:og ops (A R B) o=some true:=by exact rfl) (T:(A R B).opd x=some .rm:=by exact rfl) (L:assoc B (d*16)=none:=by exact rfl) (O:sD P t=some e:=by exact rfl) (W:szT P e=some (sz+1):=by exact rfl) (q:sP P e=some (by_+1):=by exact rfl) (U:(A R B).opd y=some (.d (.lst (m.map g))):=by exact rfl) (E:sr P e=some z:=by exact rfl) (D:z.cells.size=sz+1:=by exact rfl) (u:∀x,(g x).cells.length=sz+1:=by exact fun _=>rfl):HB (rR [] m (by_+1)) F r0 (WO P H ext mt ops (o::l) R B K):=
 fun j=>oh j fun r C j=>WO.appN C u hw N ho hc J k T U L O W q E D (h r j)
theorem bAppRG{I:RV}{rd:List Nat}{α:Type}{g:α->PD}{li m:List α}{t e:TypeId}{x y:Operand}{c:Call}{id ver sz by_ d:Nat}{z:Value}{G:(List α)->Option β}
  (h:∀r,HU (G r) r0 (WO P H ext mt ops l ((d,.ref id (ver+1))::R) ((id,.arr (ver+1) e (r.map g))::B) fun L J ts=>K L J (⟨rd++[id],[id]⟩::ts)))
  (ho:o.op= .call c:=by exact rfl) (hc:c.callee= .builtin .append:=by exact rfl) (N:c.args.toList=[x,y]:=by exact rfl) (k:c.argTypes= #[t,t]:=by exact rfl) (T:o.dst=some d:=by exact rfl) (hw:og ops (A R B) o=some true:=by exact rfl) (W:(A R B).opd x=some (.ref id ver):=by exact rfl) (O:assoc B id=some (.arr ver e (li.map g)):=by exact rfl) (U:sD P t=some e:=by exact rfl) (Y:szT P e=some (sz+1):=by exact rfl) (q:sP P e=some (by_+1):=by exact rfl) (X:(A R B).opd y=some I:=by exact rfl) (D:sq I (assoc B)=some (m.map g,rd,true):=by exact rfl) (F:sr P e=some z:=by exact rfl) (E:z.cells.size=sz+1:=by exact rfl) (u:∀x,(g x).cells.length=sz+1:=by exact fun _=>rfl):HB (rR li m (by_+1)) G r0 (WO P H ext mt ops (o::l) R B K):=
 fun j=>oh j fun r C j=>WO.appRG C u hw T ho hc N k W X D O U Y q F E (h r j)
theorem bAppRGE{I:RV}{rd:List Nat}{α:Type}{g:α->PD}{li m:List α}{t e:TypeId}{x y:Operand}{c:Call}{id ver sz by_ d:Nat}{z:Value} [EN α g] {G:(List α)->Option β}
  (h:∀r,HU (G r) r0 (WO P H ext mt ops l ((d,.ref id (ver+1))::R) ((id,.arr (ver+1) e (r.map g))::B) fun L J ts=>K L J (⟨rd++[id],[id]⟩::ts)))
  (ho:o.op= .call c:=by exact rfl) (hc:c.callee= .builtin .append:=by exact rfl) (N:c.args.toList=[x,y]:=by exact rfl) (k:c.argTypes= #[t,t]:=by exact rfl) (T:o.dst=some d:=by exact rfl) (hw:og ops (A R B) o=some true:=by exact rfl) (W:(A R B).opd x=some (.ref id ver):=by exact rfl) (O:assoc B id=some (.arr ver e (li.map g)):=by exact rfl) (U:sD P t=some e:=by exact rfl) (Y:szT P e=some (sz+1):=by exact rfl) (q:sP P e=some (by_+1):=by exact rfl) (X:(A R B).opd y=some I:=by exact rfl) (D:sq I (assoc B)=some (m.map g,rd,true):=by exact rfl) (F:sr P e=some z:=by exact rfl) (E:z.cells.size=sz+1:=by exact rfl) (u:∀x,(g x).cells.length=sz+1:=by exact fun _=>rfl):HB (rR li m (by_+1)) G r0 (WO P H ext mt ops (o::l) R B K):=
 fun j=>oh j fun r C j=>WO.appRG C u hw T ho hc N k W X D O U Y q F E (h r j)
theorem bAppNG{I:RV}{rd:List Nat}{α:Type}{g:α->PD}{m:List α}{t e:TypeId}{x y:Operand}{c:Call}{sz by_ d:Nat}{z:Value}{G:(List α)->Option β}
  (h:∀r,HU (G r) r0 (WO P H ext mt ops l ((d,.ref (d*16) 0)::R) ((d*16,.arr 0 e (r.map g))::B) fun L J ts=>K L J (⟨rd++[d*16],[d*16]⟩::ts)))
  (ho:o.op= .call c:=by exact rfl) (hc:c.callee= .builtin .append:=by exact rfl) (N:c.args.toList=[x,y]:=by exact rfl) (k:c.argTypes= #[t,t]:=by exact rfl) (T:o.dst=some d:=by exact rfl) (hw:og ops (A R B) o=some true:=by exact rfl) (W:(A R B).opd x=some .rm:=by exact rfl) (O:assoc B (d*16)=none:=by exact rfl) (U:sD P t=some e:=by exact rfl) (Y:szT P e=some (sz+1):=by exact rfl) (q:sP P e=some (by_+1):=by exact rfl) (X:(A R B).opd y=some I:=by exact rfl) (D:sq I (assoc B)=some (m.map g,rd,true):=by exact rfl) (F:sr P e=some z:=by exact rfl) (E:z.cells.size=sz+1:=by exact rfl) (u:∀x,(g x).cells.length=sz+1:=by exact fun _=>rfl):HB (rR [] m (by_+1)) G r0 (WO P H ext mt ops (o::l) R B K):=
 fun j=>oh j fun r C j=>WO.appNG C u hw T ho hc N k W X D O U Y q F E (h r j)
theorem bAppNGE{I:RV}{rd:List Nat}{α:Type}{g:α->PD}{m:List α}{t e:TypeId}{x y:Operand}{c:Call}{sz by_ d:Nat}{z:Value} [EN α g] {G:(List α)->Option β}
  (h:∀r,HU (G r) r0 (WO P H ext mt ops l ((d,.ref (d*16) 0)::R) ((d*16,.arr 0 e (r.map g))::B) fun L J ts=>K L J (⟨rd++[d*16],[d*16]⟩::ts)))
  (ho:o.op= .call c:=by exact rfl) (hc:c.callee= .builtin .append:=by exact rfl) (N:c.args.toList=[x,y]:=by exact rfl) (k:c.argTypes= #[t,t]:=by exact rfl) (T:o.dst=some d:=by exact rfl) (hw:og ops (A R B) o=some true:=by exact rfl) (W:(A R B).opd x=some .rm:=by exact rfl) (O:assoc B (d*16)=none:=by exact rfl) (U:sD P t=some e:=by exact rfl) (Y:szT P e=some (sz+1):=by exact rfl) (q:sP P e=some (by_+1):=by exact rfl) (X:(A R B).opd y=some I:=by exact rfl) (D:sq I (assoc B)=some (m.map g,rd,true):=by exact rfl) (F:sr P e=some z:=by exact rfl) (E:z.cells.size=sz+1:=by exact rfl) (u:∀x,(g x).cells.length=sz+1:=by exact fun _=>rfl):HB (rR [] m (by_+1)) G r0 (WO P H ext mt ops (o::l) R B K):=
 fun j=>oh j fun r C j=>WO.appNG C u hw T ho hc N k W X D O U Y q F E (h r j)
theorem bCutL{α:Type}{g:α->PD}{t e:TypeId}{x:Operand}{lo hi:Option Operand}{li:List α}{E D:Option RV}{a b:Int}{sz:Nat}{C:(List α)->Option β}
  (h:∀r,HU (C r) r0 (WO P H ext mt ops l ((d,.d (.lst (r.map g)))::R) B fun G F ts=>K G F (⟨[],[]⟩::ts)))
  (ho:o.op= .slice t x lo hi none:=by exact rfl) (k:mt.lit (o.dst.getD 0)=false:=by exact rfl) (L:o.dst=some d:=by exact rfl) (hw:og ops (A R B) o=some true:=by exact rfl) (T:(A R B).opd x=some (.d (.lst (li.map g))):=by exact rfl) (O:P.underlying t=some (.slice e):=by exact rfl) (U:szT P e=some sz:=by exact rfl) (hl:rV (A R B) lo=some E:=by exact rfl) (N:rV (A R B) hi=some D:=by exact rfl) (I:bnd E 0=some a:=by exact rfl) (J:bnd D li.length=some b:=by exact rfl) (q:∀x,(g x).cells.length=sz:=by exact fun _=>rfl):HB (zK li a b) C r0 (WO P H ext mt ops (o::l) R B K):=
 fun j=>oh j fun r u j=>WO.cutL u q k hw L ho T O U hl N I J (h r j)
theorem bCutLE{α:Type}{g:α->PD}{t e:TypeId}{x:Operand}{lo hi:Option Operand}{li:List α}{E D:Option RV}{a b:Int}{sz:Nat} [EN α g] {C:(List α)->Option β}
  (h:∀r,HU (C r) r0 (WO P H ext mt ops l ((d,.d (.lst (r.map g)))::R) B fun G F ts=>K G F (⟨[],[]⟩::ts)))
  (ho:o.op= .slice t x lo hi none:=by exact rfl) (k:mt.lit (o.dst.getD 0)=false:=by exact rfl) (L:o.dst=some d:=by exact rfl) (hw:og ops (A R B) o=some true:=by exact rfl) (T:(A R B).opd x=some (.d (.lst (li.map g))):=by exact rfl) (O:P.underlying t=some (.slice e):=by exact rfl) (U:szT P e=some sz:=by exact rfl) (hl:rV (A R B) lo=some E:=by exact rfl) (N:rV (A R B) hi=some D:=by exact rfl) (I:bnd E 0=some a:=by exact rfl) (J:bnd D li.length=some b:=by exact rfl) (q:∀x,(g x).cells.length=sz:=by exact fun _=>rfl):HB (zK li a b) C r0 (WO P H ext mt ops (o::l) R B K):=
 fun j=>oh j fun r u j=>WO.cutL u q k hw L ho T O U hl N I J (h r j)
theorem bByteG{t:TypeId}{x i:Operand}{s:List UInt8}{k:IntKind}{n:Int}{u:(Int)->Option β}
  (h:∀c,HU (u c) r0 (WO P H ext mt ops l ((d,.d (.int .u8 c))::R) B fun D C ts=>K D C (⟨[],[]⟩::ts)))
  (ho:o.op= .index t x i:=by exact rfl) (E:o.dst=some d:=by exact rfl) (hw:og ops (A R B) o=some true:=by exact rfl) (G:(A R B).opd x=some (.d (.str s)):=by exact rfl) (hi:(A R B).opd i=some (.d (.int k n)):=by exact rfl) (F:P.underlying t=some .string:=by exact rfl):HB (wW s n) u r0 (WO P H ext mt ops (o::l) R B K):=
 fun j=>oh j fun c q j=>WO.byteG q hw E ho G hi F (h c j)
theorem bCutG{t:TypeId}{x:Operand}{lo hi:Option Operand}{s:List UInt8}{D C:Option RV}{a b:Int}{u:(List UInt8)->Option β}
  (h:∀r,HU (u r) r0 (WO P H ext mt ops l ((d,.d (.str r))::R) B fun F E ts=>K F E (⟨[],[]⟩::ts)))
  (ho:o.op= .slice t x lo hi none:=by exact rfl) (k:mt.lit (o.dst.getD 0)=false:=by exact rfl) (J:o.dst=some d:=by exact rfl) (hw:og ops (A R B) o=some true:=by exact rfl) (O:(A R B).opd x=some (.d (.str s)):=by exact rfl) (N:P.underlying t=some .string:=by exact rfl) (hl:rV (A R B) lo=some D:=by exact rfl) (L:rV (A R B) hi=some C:=by exact rfl) (G:bnd D 0=some a:=by exact rfl) (I:bnd C s.length=some b:=by exact rfl):HB (zK s a b) u r0 (WO P H ext mt ops (o::l) R B K):=
 fun j=>oh j fun r q j=>WO.cutG q k hw J ho O N hl L G I (h r j)
theorem bCatG{t t':TypeId}{x y:Operand}{a b:List UInt8}{q:(List UInt8)->Option β}
  (h:∀r,HU (q r) r0 (WO P H ext mt ops l ((d,.d (.str r))::R) B fun C u ts=>K C u (⟨[],[]⟩::ts)))
  (ho:o.op= .binOp .add t x y t':=by exact rfl) (D:o.dst=some d:=by exact rfl) (hw:og ops (A R B) o=some true:=by exact rfl) (E:(A R B).opd x=some (.d (.str a)):=by exact rfl) (F:(A R B).opd y=some (.d (.str b)):=by exact rfl):HB (catO a b) q r0 (WO P H ext mt ops (o::l) R B K):=
 fun j=>oh j fun r k j=>WO.catG k hw D ho E F (h r j)
theorem bSubR{α:Type}{g:α->PD}{li:List α}{t e:TypeId}{x:Operand}{lo hi:Option Operand}{E D:Option RV}{a b:Int}{id ver sz:Nat}{C:(Unit)->Option β}
  (h:∀y,HU (C y) r0 (WO P H ext mt ops l ((d,.view id ver (0+a.toNat) (0+b.toNat))::R) B fun G F ts=>K G F (⟨[id,id],[]⟩::ts)))
  (ho:o.op= .slice t x lo hi none:=by exact rfl) (q:mt.lit (o.dst.getD 0)=false:=by exact rfl) (L:o.dst=some d:=by exact rfl) (hw:og ops (A R B) o=some true:=by exact rfl) (T:(A R B).opd x=some (.ref id ver):=by exact rfl) (J:assoc B id=some (.arr ver e (li.map g)):=by exact rfl) (O:P.underlying t=some (.slice e):=by exact rfl) (U:szT P e=some (sz+1):=by exact rfl) (hl:rV (A R B) lo=some E:=by exact rfl) (N:rV (A R B) hi=some D:=by exact rfl) (I:bnd E 0=some a:=by exact rfl) (k:bnd D (li.length:Int)=some b:=by exact rfl):HB (vB li.length a b) C r0 (WO P H ext mt ops (o::l) R B K):=
 fun j=>oh j fun y u j=>WO.subR u q hw L ho T J O U hl N I k (h y j)
theorem bSubRE{α:Type}{g:α->PD}{li:List α}{t e:TypeId}{x:Operand}{lo hi:Option Operand}{E D:Option RV}{a b:Int}{id ver sz:Nat} [EN α g] {C:(Unit)->Option β}
  (h:∀y,HU (C y) r0 (WO P H ext mt ops l ((d,.view id ver (0+a.toNat) (0+b.toNat))::R) B fun G F ts=>K G F (⟨[id,id],[]⟩::ts)))
  (ho:o.op= .slice t x lo hi none:=by exact rfl) (q:mt.lit (o.dst.getD 0)=false:=by exact rfl) (L:o.dst=some d:=by exact rfl) (hw:og ops (A R B) o=some true:=by exact rfl) (T:(A R B).opd x=some (.ref id ver):=by exact rfl) (J:assoc B id=some (.arr ver e (li.map g)):=by exact rfl) (O:P.underlying t=some (.slice e):=by exact rfl) (U:szT P e=some (sz+1):=by exact rfl) (hl:rV (A R B) lo=some E:=by exact rfl) (N:rV (A R B) hi=some D:=by exact rfl) (I:bnd E 0=some a:=by exact rfl) (k:bnd D (li.length:Int)=some b:=by exact rfl):HB (vB li.length a b) C r0 (WO P H ext mt ops (o::l) R B K):=
 fun j=>oh j fun y u j=>WO.subR u q hw L ho T J O U hl N I k (h y j)
theorem bLenVw{α:Type}{g:α->PD}{li:List α}{t e:TypeId}{x:Operand}{c:Call}{id ver lo hi:Nat}{u:(Int)->Option β}
  (h:∀n,HU (u n) r0 (WO P H ext mt ops l ((d,.d (.int .i64 n))::R) B fun D C ts=>K D C (⟨[id],[]⟩::ts)))
  (ho:o.op= .call c:=by exact rfl) (hc:c.callee= .builtin .len:=by exact rfl) (E:c.args.toList=[x]:=by exact rfl) (k:c.argTypes= #[t]:=by exact rfl) (G:o.dst=some d:=by exact rfl) (hw:og ops (A R B) o=some true:=by exact rfl) (J:(A R B).opd x=some (.view id ver lo hi):=by exact rfl) (F:assoc B id=some (.arr ver e (li.map g)):=by exact rfl) (I:P.underlying t=some (.slice e):=by exact rfl):HB (lenV li.length lo hi) u r0 (WO P H ext mt ops (o::l) R B K):=
 fun j=>oh j fun n q j=>WO.lenVw q hw G ho hc E k J F I (h n j)
theorem bLenVwE{α:Type}{g:α->PD}{li:List α}{t e:TypeId}{x:Operand}{c:Call}{id ver lo hi:Nat} [EN α g] {u:(Int)->Option β}
  (h:∀n,HU (u n) r0 (WO P H ext mt ops l ((d,.d (.int .i64 n))::R) B fun D C ts=>K D C (⟨[id],[]⟩::ts)))
  (ho:o.op= .call c:=by exact rfl) (hc:c.callee= .builtin .len:=by exact rfl) (E:c.args.toList=[x]:=by exact rfl) (k:c.argTypes= #[t]:=by exact rfl) (G:o.dst=some d:=by exact rfl) (hw:og ops (A R B) o=some true:=by exact rfl) (J:(A R B).opd x=some (.view id ver lo hi):=by exact rfl) (F:assoc B id=some (.arr ver e (li.map g)):=by exact rfl) (I:P.underlying t=some (.slice e):=by exact rfl):HB (lenV li.length lo hi) u r0 (WO P H ext mt ops (o::l) R B K):=
 fun j=>oh j fun n q j=>WO.lenVw q hw G ho hc E k J F I (h n j)
theorem bEltV{α:Type}{g:α->PD}{li:List α}{t e:TypeId}{x i:Operand}{k:IntKind}{n:Int}{id ver lo hi sz:Nat}{C:(Unit)->Option β}
  (h:∀y,HU (C y) r0 (WO P H ext mt ops l ((d,.elt id ver (lo+n.toNat) 0)::R) B fun E D ts=>K E D (⟨[id],[]⟩::ts)))
  (ho:o.op= .indexAddr t x i:=by exact rfl) (G:o.dst=some d:=by exact rfl) (hw:og ops (A R B) o=some true:=by exact rfl) (J:(A R B).opd x=some (.view id ver lo hi):=by exact rfl) (q:(A R B).opd i=some (.d (.int k n)):=by exact rfl) (F:assoc B id=some (.arr ver e (li.map g)):=by exact rfl) (I:P.underlying t=some (.slice e):=by exact rfl) (L:szT P e=some sz:=by exact rfl):HB (inV li.length lo hi n) C r0 (WO P H ext mt ops (o::l) R B K):=
 fun j=>oh j fun y u j=>WO.eltV u hw G ho J q F I L (h y j)
theorem bEltVE{α:Type}{g:α->PD}{li:List α}{t e:TypeId}{x i:Operand}{k:IntKind}{n:Int}{id ver lo hi sz:Nat} [EN α g] {C:(Unit)->Option β}
  (h:∀y,HU (C y) r0 (WO P H ext mt ops l ((d,.elt id ver (lo+n.toNat) 0)::R) B fun E D ts=>K E D (⟨[id],[]⟩::ts)))
  (ho:o.op= .indexAddr t x i:=by exact rfl) (G:o.dst=some d:=by exact rfl) (hw:og ops (A R B) o=some true:=by exact rfl) (J:(A R B).opd x=some (.view id ver lo hi):=by exact rfl) (q:(A R B).opd i=some (.d (.int k n)):=by exact rfl) (F:assoc B id=some (.arr ver e (li.map g)):=by exact rfl) (I:P.underlying t=some (.slice e):=by exact rfl) (L:szT P e=some sz:=by exact rfl):HB (inV li.length lo hi n) C r0 (WO P H ext mt ops (o::l) R B K):=
 fun j=>oh j fun y u j=>WO.eltV u hw G ho J q F I L (h y j)
theorem bStoreE{α:Type}{g:α->PD}{li:List α}{t e:TypeId}{a x:Operand}{n:Int}{id ver sz:Nat}{y:α}{p:PD}{D:(List α)->Option β}
  (h:∀r,HU (D r) r0 (WO P H ext mt ops l R ((id,.arr ver e (r.map g))::B) fun F E ts=>K F E (⟨[id],[id]⟩::ts)))
  (ho:o.op= .store t a x:=by exact rfl) (G:(A R B).opd a=some (.elt id ver n.toNat 0):=by exact rfl) (J:o.dst=none:=by exact rfl) (hw:og ops (A R B) o=some true:=by exact rfl) (L:(A R B).opd x=some (.d p):=by exact rfl) (I:assoc B id=some (.arr ver e (li.map g)):=by exact rfl) (N:szT P t=some sz:=by exact rfl) (u:∀x,(g x).cells.length=sz:=by exact fun _=>rfl) (q:∀x,(g x).put 0 p.cells=g y:=by first|exact fun _=>rfl|(intro _;kernel_rfl)) (hs:(RV.d p).sized=true:=by exact rfl) (k:p.cells.length=sz:=by exact rfl):HB (tO li n y) D r0 (WO P H ext mt ops (o::l) R B K):=
 fun j=>oh j fun r C j=>WO.vj C u q hw J ho G L I N hs k (h r j)
theorem bStoreEE{α:Type}{g:α->PD}{li:List α}{t e:TypeId}{a x:Operand}{n:Int}{id ver sz:Nat}{y:α}{p:PD} [EN α g] {D:(List α)->Option β}
  (h:∀r,HU (D r) r0 (WO P H ext mt ops l R ((id,.arr ver e (r.map g))::B) fun F E ts=>K F E (⟨[id],[id]⟩::ts)))
  (ho:o.op= .store t a x:=by exact rfl) (G:(A R B).opd a=some (.elt id ver n.toNat 0):=by exact rfl) (J:o.dst=none:=by exact rfl) (hw:og ops (A R B) o=some true:=by exact rfl) (L:(A R B).opd x=some (.d p):=by exact rfl) (I:assoc B id=some (.arr ver e (li.map g)):=by exact rfl) (N:szT P t=some sz:=by exact rfl) (u:∀x,(g x).cells.length=sz:=by exact fun _=>rfl) (q:∀x,(g x).put 0 p.cells=g y:=by first|exact fun _=>rfl|(intro _;kernel_rfl)) (hs:(RV.d p).sized=true:=by exact rfl) (k:p.cells.length=sz:=by exact rfl):HB (tO li n y) D r0 (WO P H ext mt ops (o::l) R B K):=
 fun j=>oh j fun r C j=>WO.vj C u q hw J ho G L I N hs k (h r j)
theorem bResl{α:Type}{g:α->PD}{li:List α}{t e:TypeId}{x:Operand}{lo hi:Option Operand}{k:IntKind}{b:Int}{id ver sz d:Nat}{G F:Option RV}{E:(Unit)->Option β}
  (h:∀y,HU (E y) r0 (WO P H ext mt ops l ((d,.ref id (ver+1))::R) ((id,.arr (ver+1) e ((li.take b.toNat).map g))::B) fun J I ts=>K J I (⟨[id],[id]⟩::ts)))
  (ho:o.op= .slice t x lo hi none:=by exact rfl) (q:mt.lit (o.dst.getD 0)=true:=by exact rfl) (N:o.dst=some d:=by exact rfl) (hw:og ops (A R B) o=some true:=by exact rfl) (U:(A R B).opd x=some (.ref id ver):=by exact rfl) (L:assoc B id=some (.arr ver e (li.map g)):=by exact rfl) (T:P.underlying t=some (.slice e):=by exact rfl) (W:szT P e=some (sz+1):=by exact rfl) (hl:rV (A R B) lo=some G:=by exact rfl) (O:rV (A R B) hi=some F:=by exact rfl) (C:G=none:=by exact rfl) (u:F=some (.d (.int k b)):=by exact rfl):HB (vB li.length 0 b) E r0 (WO P H ext mt ops (o::l) R B K):=
 fun j=>oh j fun y D j=>WO.resl D q hw N ho U L T W hl O C u (h y j)
theorem bReslE{α:Type}{g:α->PD}{li:List α}{t e:TypeId}{x:Operand}{lo hi:Option Operand}{k:IntKind}{b:Int}{id ver sz d:Nat}{G F:Option RV} [EN α g] {E:(Unit)->Option β}
  (h:∀y,HU (E y) r0 (WO P H ext mt ops l ((d,.ref id (ver+1))::R) ((id,.arr (ver+1) e ((li.take b.toNat).map g))::B) fun J I ts=>K J I (⟨[id],[id]⟩::ts)))
  (ho:o.op= .slice t x lo hi none:=by exact rfl) (q:mt.lit (o.dst.getD 0)=true:=by exact rfl) (N:o.dst=some d:=by exact rfl) (hw:og ops (A R B) o=some true:=by exact rfl) (U:(A R B).opd x=some (.ref id ver):=by exact rfl) (L:assoc B id=some (.arr ver e (li.map g)):=by exact rfl) (T:P.underlying t=some (.slice e):=by exact rfl) (W:szT P e=some (sz+1):=by exact rfl) (hl:rV (A R B) lo=some G:=by exact rfl) (O:rV (A R B) hi=some F:=by exact rfl) (C:G=none:=by exact rfl) (u:F=some (.d (.int k b)):=by exact rfl):HB (vB li.length 0 b) E r0 (WO P H ext mt ops (o::l) R B K):=
 fun j=>oh j fun y D j=>WO.resl D q hw N ho U L T W hl O C u (h y j)
theorem bMkS{α:Type}{g:α->PD}{z:α}{n:Int}{t e:TypeId}{x y:Operand}{k k':IntKind}{sz by_:Nat}{E:(List α)->Option β}
  (h:∀r,HU (E r) r0 (WO P H ext mt ops l ((d,.ref (d*16) 0)::R) ((d*16,.arr 0 e (r.map g))::B) fun G F ts=>K G F (⟨[d*16],[d*16]⟩::ts)))
  (ho:o.op= .makeSlice t x y:=by exact rfl) (J:o.dst=some d:=by exact rfl) (hw:og ops (A R B) o=some true:=by exact rfl) (N:(A R B).opd x=some (.d (.int k n)):=by exact rfl) (I:assoc B (d*16)=none:=by exact rfl) (L:sD P t=some e:=by exact rfl) (T:(sr P e).bind tq=some (g z):=by exact rfl) (q:sP P e=some by_:=by exact rfl) (O:(A R B).opd y=some (.d (.int k' n)):=by exact rfl) (D:(g z).cells.length=sz+1:=by kernel_rfl) (u:szT P e=some (sz+1):=by exact rfl):HB (mkO n z by_) E r0 (WO P H ext mt ops (o::l) R B K):=
 fun j=>oh j fun r C j=>WO.mkS C D hw J ho N O I L u q T (h r j)
theorem bMkSE{α:Type}{g:α->PD}{z:α}{n:Int}{t e:TypeId}{x y:Operand}{k k':IntKind}{sz by_:Nat} [EN α g] {E:(List α)->Option β}
  (h:∀r,HU (E r) r0 (WO P H ext mt ops l ((d,.ref (d*16) 0)::R) ((d*16,.arr 0 e (r.map g))::B) fun G F ts=>K G F (⟨[d*16],[d*16]⟩::ts)))
  (ho:o.op= .makeSlice t x y:=by exact rfl) (J:o.dst=some d:=by exact rfl) (hw:og ops (A R B) o=some true:=by exact rfl) (N:(A R B).opd x=some (.d (.int k n)):=by exact rfl) (I:assoc B (d*16)=none:=by exact rfl) (L:sD P t=some e:=by exact rfl) (T:(sr P e).bind tq=some (g z):=by exact rfl) (q:sP P e=some by_:=by exact rfl) (O:(A R B).opd y=some (.d (.int k' n)):=by exact rfl) (D:(g z).cells.length=sz+1:=by kernel_rfl) (u:szT P e=some (sz+1):=by exact rfl):HB (mkO n z by_) E r0 (WO P H ext mt ops (o::l) R B K):=
 fun j=>oh j fun r C j=>WO.mkS C D hw J ho N O I L u q T (h r j)
theorem bMkC{α:Type}{g:α->PD}{z:α}{n m:Int}{t e:TypeId}{x y:Operand}{k k':IntKind}{sz by_:Nat}{E:(List α)->Option β}
  (h:∀r,HU (E r) r0 (WO P H ext mt ops l ((d,.ref (d*16) 0)::R) ((d*16,.arr 0 e (r.map g))::B) fun G F ts=>K G F (⟨[d*16],[d*16]⟩::ts)))
  (ho:o.op= .makeSlice t x y:=by exact rfl) (J:o.dst=some d:=by exact rfl) (hw:og ops (A R B) o=some true:=by exact rfl) (N:(A R B).opd x=some (.d (.int k n)):=by exact rfl) (I:assoc B (d*16)=none:=by exact rfl) (L:sD P t=some e:=by exact rfl) (T:(sr P e).bind tq=some (g z):=by exact rfl) (q:sP P e=some by_:=by exact rfl) (O:(A R B).opd y=some (.d (.int k' m)):=by exact rfl) (D:(g z).cells.length=sz+1:=by kernel_rfl) (u:szT P e=some (sz+1):=by exact rfl):HB (AF n m z by_) E r0 (WO P H ext mt ops (o::l) R B K):=
 fun j=>oh j fun r C j=>WO.mkC C D hw J ho N O I L u q T (h r j)
theorem bMkCE{α:Type}{g:α->PD}{z:α}{n m:Int}{t e:TypeId}{x y:Operand}{k k':IntKind}{sz by_:Nat} [EN α g] {E:(List α)->Option β}
  (h:∀r,HU (E r) r0 (WO P H ext mt ops l ((d,.ref (d*16) 0)::R) ((d*16,.arr 0 e (r.map g))::B) fun G F ts=>K G F (⟨[d*16],[d*16]⟩::ts)))
  (ho:o.op= .makeSlice t x y:=by exact rfl) (J:o.dst=some d:=by exact rfl) (hw:og ops (A R B) o=some true:=by exact rfl) (N:(A R B).opd x=some (.d (.int k n)):=by exact rfl) (I:assoc B (d*16)=none:=by exact rfl) (L:sD P t=some e:=by exact rfl) (T:(sr P e).bind tq=some (g z):=by exact rfl) (q:sP P e=some by_:=by exact rfl) (O:(A R B).opd y=some (.d (.int k' m)):=by exact rfl) (D:(g z).cells.length=sz+1:=by kernel_rfl) (u:szT P e=some (sz+1):=by exact rfl):HB (AF n m z by_) E r0 (WO P H ext mt ops (o::l) R B K):=
 fun j=>oh j fun r C j=>WO.mkC C D hw J ho N O I L u q T (h r j)
theorem bStoreF{α:Type}{g:α->PD}{f:α->α}{li:List α}{t e:TypeId}{a x:Operand}{n:Int}{id ver off sz:Nat}{v:RV}{p:PD}{u:Ups}{rd:List Nat}{G:(List α)->Option β}
  (h:∀r,HU (G r) r0 (WO P H ext mt ops l R (xN (u++[(id,Box.arr ver e (r.map g))]) B) fun J I ts=>K J I (⟨[id]++rd,(u++[(id,Box.arr ver e (r.map g))]).map (·.1)⟩::ts)))
  (ho:o.op= .store t a x:=by exact rfl) (L:(A R B).opd a=some (.elt id ver n.toNat off):=by exact rfl) (O:o.dst=none:=by exact rfl) (hw:og ops (A R B) o=some true:=by exact rfl) (T:(A R B).opd x=some v:=by exact rfl) (N:assoc B id=some (.arr ver e (li.map g)):=by exact rfl) (U:szT P t=some sz:=by exact rfl) (D:∀x,(g x).put off p.cells=g (f x):=by first|exact fun _=>rfl|(intro _;kernel_rfl)) (j:∀x,off+sz<=(g x).cells.length:=by exact fun _=>Nat.le_of_ble_eq_true rfl) (hs:v.sized=true:=by exact rfl) (E:uL v (assoc B)=some ((p,u),rd,true):=by exact rfl) (q:(u.map (·.1)).contains id=false:=by exact rfl) (C:p.cells.length=sz:=by exact rfl):HB (xL li n f) G r0 (WO P H ext mt ops (o::l) R B K):=
 fun k=>oh k fun r F k=>WO.storeF F D j hw O ho L T N U hs E q C (h r k)
theorem bStoreFE{α:Type}{g:α->PD}{f:α->α}{li:List α}{t e:TypeId}{a x:Operand}{n:Int}{id ver off sz:Nat}{v:RV}{p:PD}{u:Ups}{rd:List Nat} [EN α g] {G:(List α)->Option β}
  (h:∀r,HU (G r) r0 (WO P H ext mt ops l R (xN (u++[(id,Box.arr ver e (r.map g))]) B) fun J I ts=>K J I (⟨[id]++rd,(u++[(id,Box.arr ver e (r.map g))]).map (·.1)⟩::ts)))
  (ho:o.op= .store t a x:=by exact rfl) (L:(A R B).opd a=some (.elt id ver n.toNat off):=by exact rfl) (O:o.dst=none:=by exact rfl) (hw:og ops (A R B) o=some true:=by exact rfl) (T:(A R B).opd x=some v:=by exact rfl) (N:assoc B id=some (.arr ver e (li.map g)):=by exact rfl) (U:szT P t=some sz:=by exact rfl) (D:∀x,(g x).put off p.cells=g (f x):=by first|exact fun _=>rfl|(intro _;kernel_rfl)) (j:∀x,off+sz<=(g x).cells.length:=by exact fun _=>Nat.le_of_ble_eq_true rfl) (hs:v.sized=true:=by exact rfl) (E:uL v (assoc B)=some ((p,u),rd,true):=by exact rfl) (q:(u.map (·.1)).contains id=false:=by exact rfl) (C:p.cells.length=sz:=by exact rfl):HB (xL li n f) G r0 (WO P H ext mt ops (o::l) R B K):=
 fun k=>oh k fun r F k=>WO.storeF F D j hw O ho L T N U hs E q C (h r k)
end
theorem au {p : Prop} (h : p := by
 repeat' (first
  |with_reducible refine HU.b ?_
  |((with_reducible refine HU.v (fun e=>?_) (fun e=>?_))<;>subst e)
  |with_reducible refine HU.i ?_
  |with_reducible refine HU.s ?_
  |refine HU.b ?_
  |(refine HU.v (fun e=>?_) (fun e=>?_)<;>subst e)
  |refine HU.i ?_
  |refine HU.s ?_
  |with_reducible refine aN ?_
  |with_reducible refine kP ?_
  |with_reducible refine kQ ?_
  | ((with_reducible refine kW ?_); first
    |((with_reducible refine kS ?_);refine aK ?_)
    |((with_reducible refine kO (op:= .move _) ?_);refine aM ?_)
    |((with_reducible refine kO (op:= .assign _) ?_);refine aA ?_)
    |((with_reducible refine kO (op:= .load _ _) ?_);first|refine aL ?_|((with_reducible refine HF.o ?_);refine aF ?_ ?_)|((with_reducible refine HB.o ?_);first|refine bLoadE fun _=>?_|refine bLoadEE fun _=>?_)|refine aV ?_)
    |((with_reducible refine kO (op:= .build _ _) ?_);first|refine aP ?_|refine aV ?_)
    |((with_reducible refine kO (op:= .fieldAddr _ _ _) ?_);refine aV ?_)
    |((with_reducible refine kO (op:= .nilCheck _) ?_);refine aV ?_)
    |((with_reducible refine kO (op:= .field _ _ _) ?_);refine aV ?_)
    |((with_reducible refine kO (op:= .binOp .quo _ _ _ _) ?_);first|((with_reducible refine HB.o ?_);first|refine bQuoG fun _=>?_)|refine aV ?_)
    |((with_reducible refine kO (op:= .binOp .rem _ _ _ _) ?_);first|((with_reducible refine HB.o ?_);first|refine bRemG fun _=>?_)|refine aV ?_)
    |((with_reducible refine kO (op:= .binOp .shl _ _ _ _) ?_);first|refine aV ?_|((with_reducible refine HB.o ?_);first|refine bShlG fun _=>?_))
    |((with_reducible refine kO (op:= .binOp .shr _ _ _ _) ?_);first|refine aV ?_|((with_reducible refine HB.o ?_);first|refine bShrG fun _=>?_))
    |((with_reducible refine kO (op:= .binOp .add _ _ _ _) ?_);first|refine aV ?_|((with_reducible refine HB.o ?_);first|refine bCatG fun _=>?_))
    |((with_reducible refine kO (op:= .binOp .sub _ _ _ _) ?_);refine aV ?_)
    |((with_reducible refine kO (op:= .binOp .mul _ _ _ _) ?_);refine aV ?_)
    |((with_reducible refine kO (op:= .binOp .eql _ _ _ _) ?_);first|((with_reducible refine HF.o ?_);refine aF ?_ ?_)|((with_reducible refine HF.o ?_);refine aFk ?_ ?_)|refine aT ?_|refine aU ?_|refine aV ?_)
    |((with_reducible refine kO (op:= .binOp .neq _ _ _ _) ?_);first|((with_reducible refine HF.o ?_);refine aF ?_ ?_)|((with_reducible refine HF.o ?_);refine aFk ?_ ?_)|refine aT ?_|refine aU ?_|refine aV ?_)
    |((with_reducible refine kO (op:= .binOp _ _ _ _ _) ?_);first|((with_reducible refine HF.o ?_);refine aF ?_ ?_)|refine aT ?_|refine aU ?_|refine aV ?_)
    |((with_reducible refine kO (op:= .call ⟨.value _,_,_⟩) ?_);first|((with_reducible refine HB.o ?_);refine HB.n fun _ j=>?_;first|refine aC j ?_|refine aD j ?_))
    |((with_reducible refine kO (op:= .call ⟨.builtin .append,_,_⟩) ?_);first|((with_reducible refine HB.o ?_);first|refine bAppR fun _=>?_|refine bAppRE fun _=>?_|refine bAppN fun _=>?_|refine bAppNE fun _=>?_|refine bAppRG fun _=>?_|refine bAppRGE fun _=>?_|refine bAppNG fun _=>?_|refine bAppNGE fun _=>?_))
    |((with_reducible refine kO (op:= .call ⟨.builtin .len,_,_⟩) ?_);first|refine aZ ?_|refine HM.i (fun e=>WO.lenR rfl rfl rfl rfl rfl rfl rfl rfl rfl e) ?_|refine aV ?_|((with_reducible refine HB.o ?_);first|refine bLenVw fun _=>?_|refine bLenVwE fun _=>?_))
    |((with_reducible refine kO (op:= .call _) ?_);refine aV ?_)
    |((with_reducible refine kO (op:= .indexAddr _ _ _) ?_);first|((with_reducible refine HB.o ?_);first|refine bElemG fun _=>?_|refine bElemGE fun _=>?_|refine bEltG fun _=>?_|refine bEltGE fun _=>?_|refine bEltV fun _=>?_|refine bEltVE fun _=>?_)|refine aV ?_)
    |((with_reducible refine kO (op:= .index _ _ _) ?_);first|((with_reducible refine HB.o ?_);first|refine bByteG fun _=>?_)|refine aV ?_)
    |((with_reducible refine kO (op:= .slice _ _ _ _ _) ?_);first|((with_reducible refine HB.o ?_);first|refine bCutL fun _=>?_|refine bCutLE fun _=>?_|refine bCutG fun _=>?_|refine bSubR fun _=>?_|refine bSubRE fun _=>?_|refine bResl fun _=>?_|refine bReslE fun _=>?_)|refine aV ?_)
    |((with_reducible refine kO (op:= .store _ _ _) ?_);first|refine aS ?_|((with_reducible refine HB.o ?_);first|refine bStoreE fun _=>?_|refine bStoreEE fun _=>?_|refine bStoreF fun _=>?_|refine bStoreFE fun _=>?_))
    |((with_reducible refine kO (op:= .alloc _) ?_);refine aW ?_)
    |((with_reducible refine kO (op:= .box _ _) ?_);refine aX ?_)
    |((with_reducible refine kO (op:= .buildSlice _ _ _) ?_);first|refine aV ?_|refine aY ?_|refine aB ?_)
    |((with_reducible refine kO (op:= .makeSlice _ _ _) ?_);first|((with_reducible refine HB.o ?_);first|refine bMkS fun _=>?_|refine bMkSE fun _=>?_|refine bMkC fun _=>?_|refine bMkCE fun _=>?_))
    |((with_reducible refine kO (op:= .unOp _ _ _) ?_);first|((with_reducible refine HF.o ?_);refine aF ?_ ?_)|refine aV ?_)
    |((with_reducible refine kO (op:=_) ?_);first|refine aV ?_))
  | ((with_reducible refine kC ?_); first
    |((with_reducible refine kC (c:= .seq (.region _ _ false) _) ?_);first|refine aG0 ?_|refine aG ?_)
    |((with_reducible refine kC (c:= .seq (.region _ _ true) _) ?_);first|refine aGD0 ?_|refine aGD ?_)
    |((with_reducible refine kC (c:= .region _ _ false) ?_);first|refine aH0 ?_|refine aH ?_)
    |((with_reducible refine kC (c:= .region _ _ true) ?_);first|refine aHD0 ?_|refine aHD ?_)
    |((with_reducible refine kC (c:= .seq _ _) ?_);refine aQ ?_)
    |((with_reducible refine kC (c:= .cond _ _ _) ?_);first|refine HM.i (fun e=>cT e) ?_|refine HM.i (fun e=>cF e) ?_|((with_reducible refine HF.o ?_);refine aI ?_ ?_))
    |((with_reducible refine kC (c:= .block _ (.loop _)) ?_);first|((with_reducible refine HB.o ?_);refine aJ ?_ ?_)|refine aO ?_)
    |((with_reducible refine kC (c:= .block _ _) ?_);refine aO ?_)
    |((with_reducible refine kC (c:= .loop _) ?_);refine aRl ?_)
    |((with_reducible refine kC (c:= .skip) ?_);refine HM.i qK ?_)
    |((with_reducible refine kC (c:= .exit _) ?_);refine HM.i qX ?_)
    |((with_reducible refine kC (c:= .ret) ?_);refine HM.i qR ?_)
    |((with_reducible refine kC (c:= .scope _) ?_);refine HM.i WC.scope ?_)
    |((with_reducible refine kC (c:= .label _) ?_);first|refine HM.i WC.label ?_))
  | ((with_reducible refine kI ?_); first
    |((with_reducible refine kI (c:= .seq (.region _ _ false) _) ?_);refine iG ?_)
    |((with_reducible refine kI (c:= .seq (.region _ _ true) _) ?_);refine iGD ?_)
    |((with_reducible refine kI (c:= .region _ _ false) ?_);refine iH ?_)
    |((with_reducible refine kI (c:= .region _ _ true) ?_);refine iHD ?_)
    |((with_reducible refine kI (c:= .seq .skip _) ?_);refine iK ?_)
    |((with_reducible refine kI (c:= .seq _ _) ?_);refine iQ ?_)
    |((with_reducible refine kI (c:= .block _ _) ?_);refine iO ?_)
    |((with_reducible refine kI (c:= .scope _) ?_);first|refine iS ?_))
  |with_reducible refine jS ?_
  |with_reducible refine jB ?_
  |with_reducible refine jE ?_
  |with_reducible refine aRr ?_
  |with_reducible refine aWn ?_
  |with_reducible refine aWr ?_
  |with_reducible refine aWx ?_
  |with_reducible refine aQn ?_
  |with_reducible refine aQr ?_
  |with_reducible refine aQx ?_
  |with_reducible refine aOn ?_
  |with_reducible refine aOr ?_
  |with_reducible refine aOx ?_
  |with_reducible refine aOy ?_
  |((with_reducible refine kE ?_);refine aE ?_)
  |with_reducible refine aJX ?_
  |with_reducible refine aJR ?_
  |with_reducible refine aJY ?_ ?_
  |with_reducible refine pF ?_
  |intro _
  |(refine HM.e fun e=>?_;cases e)
  |exact doneR (by assumption)
  |exact qG
  |exact QLn rfl
  |exact QLn (by assumption)
  |exact QLx ⟨rfl,rfl⟩
  |exact QLr ⟨rfl,rfl⟩
  |exact QLr ⟨rfl,by assumption⟩
  |exact qD)):p:=h
theorem Ev.au{P:Program}{H:Hints}{ext:FuncId->Option rO}{f:FuncId}{β:Type}{m:Option β}{r:β}{args:List RV}{bs j:List Box}{x:RV}{fn:Func}{c:Code}(h:m=some r)(hf:P.funcs[f]? =some fn)
  (k : fn.body = some c := by exact rfl) (C : ext f = none := by exact rfl) (q : (yx fn.ntmps c && (fn.name != "runtime.NumGoroutine") && decide (args.length ≤ fn.ntmps) && bs.all (fun b => verB b == 0)) = true := by kernel_rfl)
  (u:HU m r (WC P H ext f bs.length c (xg 0 args) (xg 0 bs) (tZ P (H.own f) fn bs.length x j)):=by exact au):Ev P H ext f args bs x j:=Ev.body C hf k q (u h)
end Go.Dw
