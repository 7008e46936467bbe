
import Derived.Test.YthkfkgoddhehcaaGreatDwNest
import Derived.Test.YthkfkgoddhehcaaGreatDwShort
set_option linter.unusedVariables false
set_option linter.unusedSimpArgs false

namespace Go.Dw
def HM{β:Type}(m:Option β)(r:β)(G:Prop):Prop:=m=some r->G
theorem HM.i{β:Type}{m:Option β}{r:β}{G a:Prop}(f:a->G)(h:HM m r a):HM m r G:=λe=>f (h e)
def HU{β:Type}(m:Option β)(r:β)(G:Prop):Prop:=m=some r->G
theorem HU.b{α β:Type}{m:Option α}{k:α->Option β}{r:β}{G:Prop}(h:HM (m.bind k) r G):HU (m.bind k) r G:=h
theorem HU.i{β:Type}{t:Bool}{a b:Option β}{r:β}{G:Prop}(h:HM (if t=true then a else b) r G):HU (if t=true then a else b) r G:=h
theorem HU.s{β:Type}{a r:β}{G:Prop}(h:HM (some a) r G):HU (some a) r G:=h
theorem HM.b{α β:Type}{m:Option α}{k:α->Option β}{r:β}{G:Prop}(h:∀x,m=some x->HU (k x) r G):HM (m.bind k) r G:=λe=>tF e h
theorem HM.e{β:Type}{a r:β}{G:Prop}(h:a=r->G):HM (some a) r G:=λe=>h (Option.some.inj e)
def HF{β:Type}(t:Bool)(a b:Option β)(r:β)(G:Prop):Prop:=(if t=true then a else b)=some r->G
theorem HF.o{β:Type}{t:Bool}{a b:Option β}{r:β}{G:Prop}(h:HF t a b r G):HM (if t=true then a else b) r G:=h
def HB{α β:Type}(m:Option α)(k:α->Option β)(r:β)(G:Prop):Prop:=m.bind k=some r->G
theorem HB.o{α β:Type}{m:Option α}{k:α->Option β}{r:β}{G:Prop}(h:HB m k r G):HM (m.bind k) r G:=h
theorem HB.b{α β:Type}{m:Option α}{k:α->Option β}{r:β}{G:α->Prop}{a:Prop}(f:∀x,m=some x->G x->a)(h:∀x,HU (k x) r (G x)):HB m k r a:=λe=>tF e λx c e=>f x c (h x e)
theorem consE{α:Type}{a c:α}{t t':List α}(h:a=c)(j:t=t'):a::t=c::t':=by rw [h,j]
theorem nilE{α:Type}:([]:List α)=[]:=rfl
theorem ptrE{i a b:Nat}(h:a=b):RV.ptr i a=RV.ptr i b:=by rw [h]
theorem refE{i a b:Nat}(h:a=b):RV.ref i a=RV.ref i b:=by rw [h]
theorem eltE{i v n a b:Nat}(h:a=b):RV.elt i v n a=RV.elt i v n b:=by rw [h]
theorem arrE{a b:Nat}{e:TypeId}{es:List PD}(h:a=b):Box.arr a e es=Box.arr b e es:=by rw [h]
theorem aggE{a b:List RV}(h:a=b):RV.agg a=RV.agg b:=by rw [h]
theorem tupE{a b:List RV}(h:a=b):RV.tup a=RV.tup b:=by rw [h]
theorem varE{a b:List RV}(h:a=b):Box.var a=Box.var b:=by rw [h]
theorem takeE{n:Nat}{cs l:List PD}(h:List.take n cs=l):RV.d (PD.agg (List.take n cs))=RV.d (PD.agg l):=by rw [h]
theorem pairR{i j:Nat}{x y:RV}(hi:i=j)(h:x=y):(i,x)=(j,y):=by rw [hi,h]
theorem pairB{i j:Nat}{x y:Box}(hi:i=j)(h:x=y):(i,x)=(j,y):=by rw [hi,h]
theorem nfA {α : Type} {x y : α} (h : x = y := by
 repeat' (first
  |apply consE
  |exact nilE
  |apply pairR
  |apply pairB
  |(with_reducible apply takeE)
  |exact @rfl RV (RV.d _)
  |exact @rfl RV RV.tC
  |apply ptrE
  |apply refE
  |apply eltE
  |exact @rfl RV (RV.cptr _)
  |apply aggE
  |apply tupE
  |apply varE
  |apply arrE
  |exact @rfl Box Box.dead
  |exact @rfl PD (PD.int _ _)
  |exact @rfl Nat 0
  |exact @rfl Nat 1
  |exact @rfl Nat 2
  |exact @rfl Nat 3
  |exact @rfl Nat 4
  |exact @rfl Nat 5
  |exact @rfl Nat 6
  |exact @rfl Nat 7
  |exact @rfl Nat 8
  |exact @rfl Nat 9
  |exact @rfl Nat 10
  |exact @rfl Nat 11
  |exact @rfl Nat 12
  |exact @rfl Nat 13
  |exact @rfl Nat 14
  |exact @rfl Nat 15
  |exact @rfl Nat (OfNat.ofNat _)
  |exact @rfl RV _
  |exact @rfl Box _
  |exact @rfl PD _
  |exact @rfl Nat _)):x=y:=h
def upL{α:Type}(u:List (Nat×α))(l:List (Nat×α)):List (Nat×α):=l.map λx=>(x.1,(assoc u x.1).getD x.2)
def seL{α:Type}(a:List Nat)(l:List (Nat×α)):List (Nat×α):=l.filter λx=>a.contains x.1
def keepR:List yk->List Nat
 | []=>[]
 | .j0 rs _::_=>rs
 |_::g=>keepR g
def keepB:List yk->List Nat
 | []=>[]
 | .j0 _ bs::_=>bs
 |_::g=>keepB g
abbrev SR(σ:Type):=σ->List (Nat×RV)
abbrev SB(σ:Type):=σ->List (Nat×Box)
abbrev JT(ω:Type):=Program->Hints->FuncId->Nat->Nat->List (Nat×RV)->List (Nat×Box)->ω->Ex->List (Nat×RV)->List (Nat×Box)->Prop
class LI {σ ω:Type} (body:σ->Option (pH σ ω)) (hid:outParam Nat) (IR:outParam (SR σ)) (IB:outParam (SB σ)) (J:outParam (JT ω)):Prop
def jX{ω:Type}(a:Nat)(j:SR ω)(c:SB ω):JT ω:=λP H f nb id R1 B1 o e R B=>e= .exit id∧tH P nb (A R B) (H.at_ f nb a)=some (A (seL (keepR (H.at_ f nb a)) (upL (j o) R1)) (seL (keepB (H.at_ f nb a)) (upL (c o) B1)))
def jR{ω:Type}(fn:Func)(E:ω->RV×List Box):JT ω:=λP H f nb _ _ _ o e R B=>e= .ret∧finish P (H.own f) fn nb (A R B)=some (E o)
def jY{υ ω:Type}(a:Nat)(j:SR υ)(c:SB υ)(fn:Func)(E:ω->RV×List Box):JT (υ⊕ω):=λP H f nb id R1 B1 o=>match o with| .inl y=>jX a j c P H f nb id R1 B1 y| .inr r=>jR fn E P H f nb id R1 B1 r
def QL{σ ω:Type}(x:pH σ ω)(I:σ->List (Nat×RV)->List (Nat×Box)->Prop)(J:ω->Ex->List (Nat×RV)->List (Nat×Box)->Prop)(e:Ex)(R:List (Nat×RV))(B:List (Nat×Box)):Prop:=match x with| .next s'=>e= .normal∧I s' R B| .stop a=>e≠ .normal∧J a e R B
theorem QLn{σ ω:Type}{s:σ}{I:σ->List (Nat×RV)->List (Nat×Box)->Prop}{J:ω->Ex->List (Nat×RV)->List (Nat×Box)->Prop}{R:List (Nat×RV)}{B:List (Nat×Box)}(h:I s R B):QL (.next s) I J .normal R B:=⟨rfl,h⟩
theorem QLx{σ ω:Type}{s:ω}{I:σ->List (Nat×RV)->List (Nat×Box)->Prop}{J:ω->Ex->List (Nat×RV)->List (Nat×Box)->Prop}{R:List (Nat×RV)}{B:List (Nat×Box)}{id:Nat}(h:J s (.exit id) R B):QL (.stop s) I J (.exit id) R B:=⟨nofun,h⟩
theorem QLr{σ ω:Type}{s:ω}{I:σ->List (Nat×RV)->List (Nat×Box)->Prop}{J:ω->Ex->List (Nat×RV)->List (Nat×Box)->Prop}{R:List (Nat×RV)}{B:List (Nat×Box)}(h:J s .ret R B):QL (.stop s) I J .ret R B:=⟨nofun,h⟩
theorem doneR{P:Program}{own:Nat->Bool}{fn:Func}{nb:Nat}{r:RV}{a:List Box}{R:List (Nat×RV)}{B:List (Nat×Box)}(h:finish P own fn nb (A R B)=some (r,a)):vh P own fn nb r a .ret R B:=h
theorem pF{α γ:Type}{p:α×γ->Prop}(h:∀a b,p (a,b)):∀x,p x:=fun⟨a,b⟩=>h a b
theorem HU.v{β:Type}{t:Bool}{a b:Option β}{r:β}{G:Prop}(h1:t=true->HU a r G)(c:t=false->HU b r G):HU (if t=true then a else b) r G:=λe=>vG e h1 c
class EN (α:Type) (g:outParam (α->PD)):Prop
instance :EN Int (PD.int .i64):=⟨⟩
instance :EN Bool PD.bool:=⟨⟩
instance :EN (List UInt8) PD.str:=⟨⟩
instance {α:Type} {g:α->PD} [EN α g]:EN (List α) (λl=>PD.lst (l.map g)):=⟨⟩
class CE (P:Program) (H:Hints) (ext:FuncId->Option tI) {α:Type} (m:Option α) (g:outParam FuncId) (as:outParam (List RV)) (bs:outParam (List Box)) (q:outParam (α->RV×List Box)):Prop where
 ev:∀{r},m=some r->EvP P H ext g as bs (q r)
theorem ce{P:Program}{H:Hints}{ext:FuncId->Option tI}{α:Type}{m:Option α}{r:α}{g:FuncId}{as:List RV}{bs:List Box}{q:α->RV×List Box}{x:RV×List Box}(h:m=some r) [c:CE P H ext m g as bs q] (a:q r=x:=by exact rfl):EvP P H ext g as bs x:=a▸c.ev h
section
variable {β:Type}{m:Option β}{r:β}{P:Program}{H:Hints}{ext:FuncId->Option tI}{mt:Hf}{ops:Array Oper}{l:List Oper}{R:List (Nat×RV)}{B:List (Nat×Box)}{K:List (Nat×RV)->List (Nat×Box)->List Tr->Prop}
 {d:Nat} {op:Op} {ty:TypeId} {p:String} {af:Array Edge} {g:Option (Nat×Bool)}
theorem kW{o:Oper}(h:HM m r (WO P H ext mt ops (o::l) R B K)):HM m r (WO P H ext mt ops (o::l) R B K):=h
theorem kP{o:Oper}{y:List Oper}(h:HM m r (WO P H ext mt ops (o::List.append l y) R B K)):HM m r (WO P H ext mt ops (List.append (o::l) y) R B K):=h
theorem kQ(h:HM m r (WO P H ext mt ops l R B K)):HM m r (WO P H ext mt ops (List.append [] l) R B K):=h
theorem kS{j:Nat×Bool}{x:Option Nat}(h:HM m r (WO P H ext mt ops (⟨x,op,ty,p,af,some j⟩::l) R B K)):HM m r (WO P H ext mt ops (⟨x,op,ty,p,af,some j⟩::l) R B K):=h
theorem kO{x:Option Nat}(h:HM m r (WO P H ext mt ops (⟨x,op,ty,p,af,g⟩::l) R B K)):HM m r (WO P H ext mt ops (⟨x,op,ty,p,af,g⟩::l) R B K):=h
theorem aN(h:HM m r (K R B [])):HM m r (WO P H ext mt ops [] R B K):= .i sN h
theorem aK{j:Nat×Bool}(h:HM m r (WO P H ext mt ops l ((d,.undef)::R) B λc a ts=>K c a (⟨[],[]⟩::ts)))
  (hw:tz ops (A R B) ⟨some d,op,ty,p,af,some j⟩=some false:=by exact rfl):HM m r (WO P H ext mt ops (⟨some d,op,ty,p,af,some j⟩::l) R B K):= .i (λe=>sK e hw) h
theorem aM{x:Operand}{v v':RV}(h:HM m r (WO P H ext mt ops l ((d,v')::R) B λc a ts=>K c a (⟨[],[]⟩::ts)))(k:(A R B).opd x=some v:=by exact rfl)(j:v=v':=by exact nfA)(hw:tz ops (A R B) ⟨some d,.move x,ty,p,af,g⟩=some true:=by exact rfl):HM m r (WO P H ext mt ops (⟨some d,.move x,ty,p,af,g⟩::l) R B K):=
 .i (λe=>sM (j▸k) e hw) h
theorem aA{x:Operand}{v v':RV}(h:HM m r (WO P H ext mt ops l ((d,v')::R) B λc a ts=>K c a (⟨[],[]⟩::ts)))(k:(A R B).opd x=some v:=by exact rfl)(j:v=v':=by exact nfA)(hw:tz ops (A R B) ⟨some d,.assign x,ty,p,af,g⟩=some true:=by exact rfl):HM m r (WO P H ext mt ops (⟨some d,.assign x,ty,p,af,g⟩::l) R B K):=
 .i (λe=>sA (j▸k) e hw) h
theorem aL{t:TypeId}{a:Operand}{id:Nat}{v:RV}(h:HM m r (WO P H ext mt ops l ((d,v)::R) B λj c ts=>K j c (⟨[id],[]⟩::ts)))(hc:cellW P t ((A R B).opd a) (assoc B)=some (id,v):=by exact rfl)(hw:tz ops (A R B) ⟨some d,.load t a,ty,p,af,g⟩=some true:=by exact rfl):HM m r (WO P H ext mt ops (⟨some d,.load t a,ty,p,af,g⟩::l) R B K):=
 .i (λe=>sL hc e hw) h
theorem aV{v v':RV}{rd:List Nat}(h:HM m r (WO P H ext mt ops l ((d,v')::R) B λc a ts=>K c a (⟨rd,[]⟩::ts)))
  (he:∀n,tP P mt (ub P H ext n) (A R B) ⟨some d,op,ty,p,af,g⟩ (assoc B)=some ((v,[]),rd,true):=by exact λ_=>rfl) (j:v=v':=by exact nfA) (hw:tz ops (A R B) ⟨some d,op,ty,p,af,g⟩=some true:=by exact rfl):HM m r (WO P H ext mt ops (⟨some d,op,ty,p,af,g⟩::l) R B K):=
 .i (λe=>sE v' j e he hw) h
theorem aZ{α:Type}{q:α->PD}{li:List α}{rd:List Nat}{c:Call}(h:HM m r (WO P H ext mt ops l ((d,.d (.int .i64 (li.length:Nat)))::R) B λj a ts=>K j a (⟨rd,[]⟩::ts)))
  (he:∀n,tP P mt (ub P H ext n) (A R B) ⟨some d,.call c,ty,p,af,g⟩ (assoc B)=some ((.d (.int .i64 ((li.map q).length:Nat)),[]),rd,true):=by exact λ_=>rfl) (hw:tz ops (A R B) ⟨some d,.call c,ty,p,af,g⟩=some true:=by exact rfl):HM m r (WO P H ext mt ops (⟨some d,.call c,ty,p,af,g⟩::l) R B K):=
 .i (λe=>sE _ (uf _ _) e he hw) h
theorem aF{t:Bool}{a b:Option β}{rd:List Nat}(h1:HU a r (WO P H ext mt ops l ((d,.d (.bool true))::R) B λj c ts=>K j c (⟨rd,[]⟩::ts)))(k:HU b r (WO P H ext mt ops l ((d,.d (.bool false))::R) B λj c ts=>K j c (⟨rd,[]⟩::ts)))
  (he:∀n,tP P mt (ub P H ext n) (A R B) ⟨some d,op,ty,p,af,g⟩ (assoc B)=some ((.d (.bool t),[]),rd,true):=by exact λ_=>rfl) (hw:tz ops (A R B) ⟨some d,op,ty,p,af,g⟩=some true:=by exact rfl):HF t a b r (WO P H ext mt ops (⟨some d,op,ty,p,af,g⟩::l) R B K):=
 λe=>sF e h1 k he hw
theorem aFk{t:Bool}{a b:Option β}(h1:HU a r (WO P H ext mt ops l ((d,.d (.bool true))::R) B λj c ts=>K j c (⟨[],[]⟩::ts)))(k:HU b r (WO P H ext mt ops l ((d,.d (.bool false))::R) B λj c ts=>K j c (⟨[],[]⟩::ts)))
  {q:BinOp} {t1 t2:TypeId} {x y:Operand} {u v:RV} (z:(A R B).opd x=some u:=by exact rfl) (C:(A R B).opd y=some v:=by exact rfl) (he:zK P q t1 u v=some (.bool t,true):=by kernel_rfl) (hw:tz ops (A R B) ⟨some d,.binOp q t1 x y t2,ty,p,af,g⟩=some true:=by exact rfl):HF t a b r (WO P H ext mt ops (⟨some d,.binOp q t1 x y t2,ty,p,af,g⟩::l) R B K):=
 λe=>sF e h1 k (λn=>by simp only [tP,z,C,binX,he];rfl) hw
theorem fill_nil{pl:Nat->Option (Nat×Nat)}{cs:List RV}:wx pl cs []=some cs:=rfl
theorem nfK{x n:Nat}(h:x=n:=by exact @rfl Nat (OfNat.ofNat _)):x=n:=h
theorem Ee{pl:Nat->Option (Nat×Nat)}{cs c out:List RV}{i off a k:Nat}{v:RV}{q:List (Nat×RV)}(hp:pl i=some (a,k))(ho:a=off)(hc:decide (v.cells.length=k∧off+k<=cs.length)=true)(hs:setCells cs off v.cells=c)(h:wx pl c q=some out):wx pl cs ((i,v)::q)=some out:=by
 subst ho
 simp only [wx,hp,of_decide_eq_true hc,and_self,if_true,hs,h]
theorem nfF{pl:Nat->Option (Nat×Nat)}{cs out:List RV}{q:List (Nat×RV)}(h:wx pl cs q=some out:=by repeat' (first|with_reducible exact fill_nil|(apply Ee;(case hp=>exact rfl);(case ho=>exact nfK);(case hc=>kernel_rfl);(case hs=>exact nfA)))):wx pl cs q=some out:=h
theorem aP{t:TypeId}{parts:Array (Nat×Operand)}{q:List (Nat×RV)}{c:Array Field}{z:Value}{a cs:List RV}{v:RV}(h:HM m r (WO P H ext mt ops l ((d,v)::R) B λk j ts=>K k j (⟨[],[]⟩::ts)))
  (y:uQ (A R B) parts.toList=some q:=by exact rfl) (hu:P.underlying t=some (.struct c):=by exact rfl) (C:uE P t=some z:=by exact rfl) (x:(c.toList.all λf=>(szT P f.type).isSome)=true:=by exact rfl) (u:(uh z).cells=a:=by exact nfA) (hf:wx (Bx P c) a q=some cs:=by exact nfF) (hs:vo q=true:=by kernel_rfl) (hm:BT cs=v:=by exact nfA)
  (hw:tz ops (A R B) ⟨some d,.build t parts,ty,p,af,g⟩=some true:=by exact rfl):HM m r (WO P H ext mt ops (⟨some d,.build t parts,ty,p,af,g⟩::l) R B K):=
 .i (λe=>sE v hm e (λn=>by simp only [tP,y,yp,hu,C,x,if_true,u,hf,tZ,M.tL,hs]) hw) h
theorem aT{rd:List Nat}{o t y x z}(h:HM m r (WO P H ext mt ops l ((d,.d (.bool true))::R) B λc a ts=>K c a (⟨rd,[]⟩::ts)))
  (he:∀n,tP P mt (ub P H ext n) (A R B) ⟨some d,.binOp o t y x z,ty,p,af,g⟩ (assoc B)=some ((.d (.bool true),[]),rd,true):=by exact λ_=>rfl) (hw:tz ops (A R B) ⟨some d,.binOp o t y x z,ty,p,af,g⟩=some true:=by exact rfl):HM m r (WO P H ext mt ops (⟨some d,.binOp o t y x z,ty,p,af,g⟩::l) R B K):= .i (λe=>sT e he hw) h
theorem aU{rd:List Nat}{o t y x z}(h:HM m r (WO P H ext mt ops l ((d,.d (.bool false))::R) B λc a ts=>K c a (⟨rd,[]⟩::ts)))
  (he:∀n,tP P mt (ub P H ext n) (A R B) ⟨some d,.binOp o t y x z,ty,p,af,g⟩ (assoc B)=some ((.d (.bool false),[]),rd,true):=by exact λ_=>rfl) (hw:tz ops (A R B) ⟨some d,.binOp o t y x z,ty,p,af,g⟩=some true:=by exact rfl):HM m r (WO P H ext mt ops (⟨some d,.binOp o t y x z,ty,p,af,g⟩::l) R B K):= .i (λe=>sU e he hw) h
theorem aB{v:RV}{id:Nat}{c a:Box}{rd:List Nat}(h:HM m r (WO P H ext mt ops l ((d,v)::R) ((id,a)::B) λk j ts=>K k j (⟨rd,[id]⟩::ts)))
  (he:∀n,tP P mt (ub P H ext n) (A R B) ⟨some d,op,ty,p,af,g⟩ (assoc B)=some ((v,[(id,c)]),rd,true):=by exact λ_=>rfl) (hc:c=a:=by exact nfA) (hw:tz ops (A R B) ⟨some d,op,ty,p,af,g⟩=some true:=by exact rfl):HM m r (WO P H ext mt ops (⟨some d,op,ty,p,af,g⟩::l) R B K):=
 .i (λe=>sB v id a e (hc▸he) hw) h
theorem aW{t:TypeId}{c a:Box}{rd:List Nat}(h:HM m r (WO P H ext mt ops l ((d,.ptr (d*16) 0)::R) ((d*16,a)::B) λk j ts=>K k j (⟨rd,[d*16]⟩::ts)))
  (he:∀n,tP P mt (ub P H ext n) (A R B) ⟨some d,.alloc t,ty,p,af,g⟩ (assoc B)=some ((.ptr (d*16) 0,[(d*16,c)]),rd,true):=by exact λ_=>rfl) (hc:c=a:=by exact nfA) (hw:tz ops (A R B) ⟨some d,.alloc t,ty,p,af,g⟩=some true:=by exact rfl):HM m r (WO P H ext mt ops (⟨some d,.alloc t,ty,p,af,g⟩::l) R B K):=
 .i (λe=>sB _ _ a e (hc▸he) hw) h
theorem aX{t:TypeId}{y:Operand}{c a:Box}{rd:List Nat}(h:HM m r (WO P H ext mt ops l ((d,.ptr (d*16) 0)::R) ((d*16,a)::B) λk j ts=>K k j (⟨rd,[d*16]⟩::ts)))
  (he:∀n,tP P mt (ub P H ext n) (A R B) ⟨some d,.box t y,ty,p,af,g⟩ (assoc B)=some ((.ptr (d*16) 0,[(d*16,c)]),rd,true):=by exact λ_=>rfl) (hc:c=a:=by exact nfA) (hw:tz ops (A R B) ⟨some d,.box t y,ty,p,af,g⟩=some true:=by exact rfl):HM m r (WO P H ext mt ops (⟨some d,.box t y,ty,p,af,g⟩::l) R B K):=
 .i (λe=>sB _ _ a e (hc▸he) hw) h
theorem aY{t:TypeId}{n:Nat}{parts:Array (Nat×Operand)}{c a:Box}{rd:List Nat}(h:HM m r (WO P H ext mt ops l ((d,.ref (d*16) 0)::R) ((d*16,a)::B) λk j ts=>K k j (⟨rd,[d*16]⟩::ts)))
  (he:∀q,tP P mt (ub P H ext q) (A R B) ⟨some d,.buildSlice t n parts,ty,p,af,g⟩ (assoc B)=some ((.ref (d*16) 0,[(d*16,c)]),rd,true):=by exact λ_=>rfl) (hc:c=a:=by exact nfA) (hw:tz ops (A R B) ⟨some d,.buildSlice t n parts,ty,p,af,g⟩=some true:=by exact rfl):HM m r (WO P H ext mt ops (⟨some d,.buildSlice t n parts,ty,p,af,g⟩::l) R B K):=
 .i (λe=>sB _ _ a e (hc▸he) hw) h
theorem aS{id:Nat}{cs a:List RV}{rd:List Nat}(h:HM m r (WO P H ext mt ops l R ((id,.var a)::B) λj c ts=>K j c (⟨rd,[id]⟩::ts)))
  (he:∀n,tP P mt (ub P H ext n) (A R B) ⟨none,op,ty,p,af,g⟩ (assoc B)=some ((.undef,[(id,.var cs)]),rd,true):=by exact λ_=>rfl) (hc:cs=a:=by exact nfA) (hw:tz ops (A R B) ⟨none,op,ty,p,af,g⟩=some true:=by exact rfl):HM m r (WO P H ext mt ops (⟨none,op,ty,p,af,g⟩::l) R B K):=
 .i (λe=>sS id (.var a) e (hc▸he) hw) h
theorem HB.n{α:Type}{c:Option α}{k:α->Option β}{G:Prop}(h:∀x,c=some x->HU (k x) r G):HB c k r G:=λe=>tF e h
theorem aC{f:FuncId}{args as:List RV}{k:List Nat}{q:RV}{a:List RV}{α:Type}{c:Option α}{x:α}{j:α->RV×List Box}(F:c=some x) [z:CE P H ext c f a [] j]
  (h:HU m r (WO P H ext mt ops l ((d,q)::R) B λu t ts=>K u t (⟨k++([]++([]++([]++[]))),[]⟩::ts)))
  (D:j x=(q,[]):=by exact rfl) (he:∀call,tP P mt call (A R B) ⟨some d,op,ty,p,af,g⟩ (assoc B)=vA mt.by_ call f (d*16) args (assoc B):=by exact λ_=>rfl) (y:xx (mt.by_ f) 0 args (assoc B)=some ((as,[]),k,true):=by exact rfl) (C:as.flatMap Br=[]:=by exact rfl) (has:as.map (uZ (wL [] []))=a:=by exact rfl) (E:uZ (yD [] [] []) q=q:=by exact rfl) (hw:tz ops (A R B) ⟨some d,op,ty,p,af,g⟩=some true:=by exact rfl):HU m r (WO P H ext mt ops (⟨some d,op,ty,p,af,g⟩::l) R B K):=
 λe=>cD (D▸z.ev F) (h e) he y C has E hw
theorem aD{f:FuncId}{args as:List RV}{ids F G rg y:List Nat}{u0:Ups}{a k t:List Box}{n:Nat}{q:RV}{j:List RV}{v:RV}{u:Ups}{z:List (Nat×Box)}{α:Type}{c:Option α}{x:α}{E:α->RV×List Box}(Y:c=some x) [N:CE P H ext c f j k E]
  (h:HU m r (WO P H ext mt ops l ((d,v)::R) z λI z ts=>K I z (⟨F++(G++(rg++(y++[]))),u.map (·.1)⟩::ts)))
  (W:E x=(q,t):=by exact rfl) (he:∀call,tP P mt call (A R B) ⟨some d,op,ty,p,af,g⟩ (assoc B)=vA mt.by_ call f (d*16) args (assoc B):=by exact λ_=>rfl) (J:xx (mt.by_ f) 0 args (assoc B)=some ((as,u0),F,true):=by exact rfl) (T:vT 64 [] (as.flatMap Br) (assoc B)=some (ids,G,true):=by exact rfl) (O:xB ids (assoc B)=some (a,rg,true):=by exact rfl) (has:as.map (uZ (wL ids a))=j:=by exact rfl) (D:a.map (vU (wL ids a) λ_=>0)=k:=by exact rfl)
  (C:t.length=n:=by exact rfl) (hc:(decide (ids.length<=n)&&(nodup ids&&Bj ids (u0.map (·.1))))=true:=by exact rfl) (hV:vr (vn (d*16) (n-ids.length)) (assoc B)=some ((),y,true):=by exact rfl) (X:uZ (yD (ids++vn (d*16) (n-ids.length)) a t) q=v:=by exact nfA)
  (hu:Bd u0 ids t q (yC (ids++vn (d*16) (n-ids.length)) a t)=u:=by exact nfA) (L:zI u B=z:=by exact rfl) (hw:tz ops (A R B) ⟨some d,op,ty,p,af,g⟩=some true:=by exact rfl):HU m r (WO P H ext mt ops (⟨some d,op,ty,p,af,g⟩::l) R B K):=
 λe=>cR v u (W▸N.ev Y) (L▸h e) he J T O has D (C▸hc) (C▸hV) (C▸X) (C▸hu) hw
end
section
variable {β:Type}{m:Option β}{r:β}{P:Program}{H:Hints}{ext:FuncId->Option tI}{f:FuncId}{nb:Nat}{R:List (Nat×RV)}{B:List (Nat×Box)}{Q:Ex->List (Nat×RV)->List (Nat×Box)->Prop}{id:Nat}{ops:Array Oper}{l:List Oper}{R0 R1:List (Nat×RV)}{B0 B1:List (Nat×Box)}{b:Code}
theorem kC{c:Code}(h:HM m r (WC P H ext f nb c R B Q)):HM m r (WC P H ext f nb c R B Q):=h
theorem kE{X Y:Prop}(h:HM m r (X∧Y)):HM m r (X∧Y):=h
theorem aG0(h:HM m r (WO P H ext (H.hf f) ops l R B λc a _=>WC P H ext f nb b c a Q))(k:H.at_ f nb id=[]:=by exact rfl)(j:ops=l.toArray:=by exact rfl):
  HM m r (WC P H ext f nb (.seq (.region id ops false) b) R B Q):= .i (WC.uR (by rw [k];rfl) (by rw [j])) h
theorem aG(h:HM m r (WO P H ext (H.hf f) ops l R0 B0 λc a _=>WC P H ext f nb b c a Q))(q:tH P nb (A R B) (H.at_ f nb id)=some (A R1 B1):=by exact rfl)(k:R1=R0:=by exact nfA)(j:B1=B0:=by exact nfA)(t:ops=l.toArray:=by exact rfl):
  HM m r (WC P H ext f nb (.seq (.region id ops false) b) R B Q):= .i (WC.uR (k▸j▸q) (by rw [t])) h
theorem aGD0(h:HM m r (WO P H ext (H.hf f) ops l R B λc a ts=>wM ops ts=true∧WC P H ext f nb b c a Q))(k:H.at_ f nb id=[]:=by exact rfl)(j:ops=l.toArray:=by exact rfl):
  HM m r (WC P H ext f nb (.seq (.region id ops true) b) R B Q):= .i (WC.tw (by rw [k];rfl) (by rw [j])) h
theorem aGD(h:HM m r (WO P H ext (H.hf f) ops l R0 B0 λc a ts=>wM ops ts=true∧WC P H ext f nb b c a Q))(q:tH P nb (A R B) (H.at_ f nb id)=some (A R1 B1):=by exact rfl)(k:R1=R0:=by exact nfA)(j:B1=B0:=by exact nfA)(t:ops=l.toArray:=by exact rfl):
  HM m r (WC P H ext f nb (.seq (.region id ops true) b) R B Q):= .i (WC.tw (k▸j▸q) (by rw [t])) h
theorem aH0(h:HM m r (WO P H ext (H.hf f) ops l R B λc a _=>Q .normal c a))(k:H.at_ f nb id=[]:=by exact rfl)(j:ops=l.toArray:=by exact rfl):
  HM m r (WC P H ext f nb (.region id ops false) R B Q):= .i (WC.region (by rw [k];rfl) (by rw [j])) h
theorem aH(h:HM m r (WO P H ext (H.hf f) ops l R0 B0 λc a _=>Q .normal c a))(q:tH P nb (A R B) (H.at_ f nb id)=some (A R1 B1):=by exact rfl)(k:R1=R0:=by exact nfA)(j:B1=B0:=by exact nfA)(t:ops=l.toArray:=by exact rfl):
  HM m r (WC P H ext f nb (.region id ops false) R B Q):= .i (WC.region (k▸j▸q) (by rw [t])) h
theorem aHD0(h:HM m r (WO P H ext (H.hf f) ops l R B λc a ts=>wM ops ts=true∧Q .normal c a))(k:H.at_ f nb id=[]:=by exact rfl)(j:ops=l.toArray:=by exact rfl):
  HM m r (WC P H ext f nb (.region id ops true) R B Q):= .i (WC.uI (by rw [k];rfl) (by rw [j])) h
theorem aHD(h:HM m r (WO P H ext (H.hf f) ops l R0 B0 λc a ts=>wM ops ts=true∧Q .normal c a))(q:tH P nb (A R B) (H.at_ f nb id)=some (A R1 B1):=by exact rfl)(k:R1=R0:=by exact nfA)(j:B1=B0:=by exact nfA)(t:ops=l.toArray:=by exact rfl):
  HM m r (WC P H ext f nb (.region id ops true) R B Q):= .i (WC.uI (k▸j▸q) (by rw [t])) h
def QS(P:Program)(H:Hints)(ext:FuncId->Option tI)(f:FuncId)(nb:Nat)(b:Code)(Q:Ex->List (Nat×RV)->List (Nat×Box)->Prop)(e:Ex)(R:List (Nat×RV))(B:List (Nat×Box)):Prop:=match e with| .normal=>WC P H ext f nb b R B Q|e=>Q e R B
def QB(id:Nat)(Q:Ex->List (Nat×RV)->List (Nat×Box)->Prop)(e:Ex)(R:List (Nat×RV))(B:List (Nat×Box)):Prop:=match e with| .exit a=>(a=id->Q .normal R B)∧(a≠id->Q (.exit a) R B)|e=>Q e R B
def QW(P:Program)(H:Hints)(ext:FuncId->Option tI)(f:FuncId)(nb:Nat)(b:Code)(Q:Ex->List (Nat×RV)->List (Nat×Box)->Prop)(e:Ex)(R:List (Nat×RV))(B:List (Nat×Box)):Prop:=match e with| .normal=>WL P H ext f nb b R B Q|e=>Q e R B
theorem aRl(h:HM m r (WL P H ext f nb b R B Q)):HM m r (WC P H ext f nb (.loop b) R B Q):= .i WC.loop h
theorem aRr(h:HM m r (WC P H ext f nb b R B (QW P H ext f nb b Q))):HM m r (WL P H ext f nb b R B Q):= .i (λh=>WL.round h) h
theorem aWn(h:HM m r (WL P H ext f nb b R B Q)):HM m r (QW P H ext f nb b Q .normal R B):=h
theorem aWr(h:HM m r (Q .ret R B)):HM m r (QW P H ext f nb b Q .ret R B):=h
theorem aWx(h:HM m r (Q (.exit id) R B)):HM m r (QW P H ext f nb b Q (.exit id) R B):=h
theorem aQ{a:Code}(h:HM m r (WC P H ext f nb a R B (QS P H ext f nb b Q))):HM m r (WC P H ext f nb (.seq a b) R B Q):= .i (λh=>qS h) h
theorem aQn(h:HM m r (WC P H ext f nb b R B Q)):HM m r (QS P H ext f nb b Q .normal R B):=h
theorem aQr(h:HM m r (Q .ret R B)):HM m r (QS P H ext f nb b Q .ret R B):=h
theorem aQx(h:HM m r (Q (.exit id) R B)):HM m r (QS P H ext f nb b Q (.exit id) R B):=h
theorem aO(h:HM m r (WC P H ext f nb b R B (QB id Q))):HM m r (WC P H ext f nb (.block id b) R B Q):= .i (λh=>qB h) h
theorem aOn(h:HM m r (Q .normal R B)):HM m r (QB id Q .normal R B):=h
theorem aOr(h:HM m r (Q .ret R B)):HM m r (QB id Q .ret R B):=h
theorem aOx(h:HM m r (Q .normal R B)):HM m r (QB id Q (.exit id) R B):= .i (λh=>⟨λ_=>h,λa=>(a rfl).elim⟩) h
theorem aOy{a:Nat}(h:HM m r (Q (.exit a) R B))(c:a≠id:=by decide):HM m r (QB id Q (.exit a) R B):= .i (λh=>⟨λe=>(c e).elim,λ_=>h⟩) h
theorem aI{c:Operand}{a:Code}{t:Bool}{x y:Option β}(h1:HU x r (WC P H ext f nb a R B Q))(k:HU y r (WC P H ext f nb b R B Q))(hc:(A R B).opd c=some (.d (.bool t)):=by exact rfl):HF t x y r (WC P H ext f nb (.cond c a b) R B Q):=
 λe=>vG e (λj e=>WC.condT' j hc (h1 e)) (λj e=>WC.condF' j hc (k e))
def WCI(P:Program)(H:Hints)(ext:FuncId->Option tI)(f nb:Nat)(c:Code)(a:Nat)(R0:List (Nat×RV))(B0:List (Nat×Box))(Q:Ex->List (Nat×RV)->List (Nat×Box)->Prop):Prop:=∀k j,tH P nb (A k j) (H.at_ f nb a)=some (A R0 B0)->WC P H ext f nb c k j Q
def QI(P:Program)(H:Hints)(f nb:Nat)(a:Nat)(R0:List (Nat×RV))(B0:List (Nat×Box))(Q:Ex->List (Nat×RV)->List (Nat×Box)->Prop):Prop:=∀j c,tH P nb (A j c) (H.at_ f nb a)=some (A R0 B0)->Q .normal j c
theorem kI{c:Code}{a:Nat}(h:HM m r (WCI P H ext f nb c a R0 B0 Q)):HM m r (WCI P H ext f nb c a R0 B0 Q):=h
theorem iG(h:HM m r (WO P H ext (H.hf f) ops l R1 B1 λc a _=>WC P H ext f nb b c a Q))(q:R0=R1:=by exact nfA)(j:B0=B1:=by exact nfA)(t:ops=l.toArray:=by exact rfl):HM m r (WCI P H ext f nb (.seq (.region id ops false) b) id R0 B0 Q):=
 λe c a k=>WC.uR (q▸j▸k) (by rw [t]) (h e)
theorem iGD(h:HM m r (WO P H ext (H.hf f) ops l R1 B1 λc a ts=>wM ops ts=true∧WC P H ext f nb b c a Q))(q:R0=R1:=by exact nfA)(j:B0=B1:=by exact nfA)(t:ops=l.toArray:=by exact rfl):HM m r (WCI P H ext f nb (.seq (.region id ops true) b) id R0 B0 Q):=
 λe c a k=>WC.tw (q▸j▸k) (by rw [t]) (h e)
theorem iH(h:HM m r (WO P H ext (H.hf f) ops l R1 B1 λc a _=>Q .normal c a))(q:R0=R1:=by exact nfA)(j:B0=B1:=by exact nfA)(t:ops=l.toArray:=by exact rfl):HM m r (WCI P H ext f nb (.region id ops false) id R0 B0 Q):=
 λe c a k=>WC.region (q▸j▸k) (by rw [t]) (h e)
theorem iHD(h:HM m r (WO P H ext (H.hf f) ops l R1 B1 λc a ts=>wM ops ts=true∧Q .normal c a))(q:R0=R1:=by exact nfA)(j:B0=B1:=by exact nfA)(t:ops=l.toArray:=by exact rfl):HM m r (WCI P H ext f nb (.region id ops true) id R0 B0 Q):=
 λe c a k=>WC.uI (q▸j▸k) (by rw [t]) (h e)
theorem iQ{a:Code}{c:Nat}(h:HM m r (WCI P H ext f nb a c R0 B0 (QS P H ext f nb b Q))):HM m r (WCI P H ext f nb (.seq a b) c R0 B0 Q):=λe k j q=>qS (h e k j q)
theorem iO{a:Nat}(h:HM m r (WCI P H ext f nb b a R0 B0 (QB id Q))):HM m r (WCI P H ext f nb (.block id b) a R0 B0 Q):=λe j c k=>qB (h e j c k)
theorem iS{a:Nat}(h:HM m r (WCI P H ext f nb b a R0 B0 Q)):HM m r (WCI P H ext f nb (.scope b) a R0 B0 Q):=λe j c k=>WC.scope (h e j c k)
theorem iK{a:Nat}(h:HM m r (WCI P H ext f nb b a R0 B0 Q)):HM m r (WCI P H ext f nb (.seq .skip b) a R0 B0 Q):=λe j c k=>WC.seq (WC.skip (h e j c k))
theorem jS{a:Nat}(h:HM m r (WCI P H ext f nb b a R0 B0 Q)):HM m r (QI P H f nb a R0 B0 (QS P H ext f nb b Q)):=h
theorem jB{a:Nat}(h:HM m r (QI P H f nb a R0 B0 Q)):HM m r (QI P H f nb a R0 B0 (QB id Q)):=h
theorem jE{a:Nat}(h:∀j c,tH P nb (A j c) (H.at_ f nb a)=some (A R0 B0)->HM m r (Q .normal j c)):HM m r (QI P H f nb a R0 B0 Q):=λe j c k=>h j c k e
theorem aJ{σ ω:Type}{body:σ->Option (pH σ ω)}{a:Nat}{IR:SR σ}{q:SB σ}{J:JT ω} [LI body a IR q J] {s0:σ}{k:ω->Option β}{y:List (Nat×RV)}{B2:List (Nat×Box)}
  (h1:∀s x,HU (body s) x (WCI P H ext f nb b a (upL (IR s) R1) (upL (q s) B1) (QL x (λs j c=>tH P nb (A j c) (H.at_ f nb a)=some (A (upL (IR s) R1) (upL (q s) B1))) (J P H f nb id R1 B1))))
  (D:∀o e j c,J P H f nb id R1 B1 o e j c->HU (k o) r (QB id Q e j c))
  (C:tH P nb (A R B) (H.at_ f nb a)=some (A y B2):=by exact rfl) (G:y=R1:=by exact nfA) (E:B2=B1:=by exact nfA) (u:upL (IR s0) R1=R1:=by exact rfl) (t:upL (q s0) B1=B1:=by exact rfl):HB (cI body s0) k r (WC P H ext f nb (.block id (.loop b)) R B Q):=
 λe=>tF e λo ho e=>WC.block (WC.loop (WL.tS ho (λs j c=>tH P nb (A j c) (H.at_ f nb a)=some (A (upL (IR s) R1) (upL (q s) B1))) (J P H f nb id R1 B1) (by rw [u,t, <-G, <-E];exact C) (λs j c x F I=>h1 s x I j c F) λz j c _ L=>D o z j c L e))
theorem aJX{ω:Type}{a:Nat}{t:SR ω}{q:SB ω}{k:ω->Option β}{Q:Ex->List (Nat×RV)->List (Nat×Box)->Prop}(h:∀o,HU (k o) r (QI P H f nb a (seL (keepR (H.at_ f nb a)) (upL (t o) R1)) (seL (keepB (H.at_ f nb a)) (upL (q o) B1)) Q)):∀o e j c,jX a t q P H f nb id R1 B1 o e j c->HU (k o) r (QB id Q e j c):=by
 rintro o e j c ⟨rfl,u⟩ hk
 exact⟨λ_=>h o hk j c u,λx=>(x rfl).elim⟩
theorem aJR{ω:Type}{fn:Func}{E:ω->RV×List Box}{k:ω->Option β}{Q:Ex->List (Nat×RV)->List (Nat×Box)->Prop}(h:∀o c a,finish P (H.own f) fn nb (A c a)=some (E o)->HU (k o) r (Q .ret c a)):∀o e c a,jR fn E P H f nb id R1 B1 o e c a->HU (k o) r (QB id Q e c a):=by
 rintro o e c a ⟨rfl,j⟩ hk
 exact h o c a j hk
theorem aJY{υ ω:Type}{a:Nat}{t:SR υ}{q:SB υ}{fn:Func}{E:ω->RV×List Box}{k:υ⊕ω->Option β}{Q:Ex->List (Nat×RV)->List (Nat×Box)->Prop}(h:∀o,HU (k (.inl o)) r (QI P H f nb a (seL (keepR (H.at_ f nb a)) (upL (t o) R1)) (seL (keepB (H.at_ f nb a)) (upL (q o) B1)) Q))
  (u:∀o j c,finish P (H.own f) fn nb (A j c)=some (E o)->HU (k (.inr o)) r (Q .ret j c)):∀o e j c,jY a t q fn E P H f nb id R1 B1 o e j c->HU (k o) r (QB id Q e j c)
 | .inl o=>aJX (k:=λo=>k (.inl o)) h o
 | .inr o=>aJR (R1:=R1) (B1:=B1) (k:=λo=>k (.inr o)) u o
theorem aE{ts:List Tr}{X:Prop}(h:HM m r X)(ho:wM ops ts=true:=by kernel_rfl):HM m r (wM ops ts=true∧X):= .i (λh=>sO h ho) h
end
section
variable {β:Type}{r0:β}{P:Program}{H:Hints}{ext:FuncId->Option tI}{mt:Hf}{ops:Array Oper}{l:List Oper}{R:List (Nat×RV)}{B:List (Nat×Box)}{K:List (Nat×RV)->List (Nat×Box)->List Tr->Prop}{o:Oper}{d:Nat}
theorem bRemG{t t':TypeId}{x y:Operand}{k k':IntKind}{a b:Int}{q:(Int)->Option β}
  (h:∀r,HU (q r) r0 (WO P H ext mt ops l ((d,.d (.int k r))::R) B λz u ts=>K z u (⟨[],[]⟩::ts)))
  (ho:o.op= .binOp .rem t x y t':=by exact rfl) (C:o.dst=some d:=by exact rfl) (hw:tz ops (A R B) o=some true:=by exact rfl) (D:(A R B).opd x=some (.d (.int k a)):=by exact rfl) (E:(A R B).opd y=some (.d (.int k' b)):=by exact rfl) (hk:k=k':=by exact rfl):HB (wO a b) q r0 (WO P H ext mt ops (o::l) R B K):=
 λc=>tF c λr j c=>WO.remG j hw C ho D E hk (h r c)
theorem bQuoG{t t':TypeId}{x y:Operand}{k k':IntKind}{a b:Int}{q:(Int)->Option β}
  (h:∀r,HU (q r) r0 (WO P H ext mt ops l ((d,.d (.int k r))::R) B λz u ts=>K z u (⟨[],[]⟩::ts)))
  (ho:o.op= .binOp .quo t x y t':=by exact rfl) (C:o.dst=some d:=by exact rfl) (hw:tz ops (A R B) o=some true:=by exact rfl) (D:(A R B).opd x=some (.d (.int k a)):=by exact rfl) (E:(A R B).opd y=some (.d (.int k' b)):=by exact rfl) (hk:k=k':=by exact rfl):HB (um k a b) q r0 (WO P H ext mt ops (o::l) R B K):=
 λc=>tF c λr j c=>WO.quoG j hw C ho D E hk (h r c)
theorem bShlG{t t':TypeId}{x y:Operand}{k k':IntKind}{a b:Int}{q:(Int)->Option β}
  (h:∀r,HU (q r) r0 (WO P H ext mt ops l ((d,.d (.int k r))::R) B λz u ts=>K z u (⟨[],[]⟩::ts)))
  (ho:o.op= .binOp .shl t x y t':=by exact rfl) (C:o.dst=some d:=by exact rfl) (hw:tz ops (A R B) o=some true:=by exact rfl) (D:(A R B).opd x=some (.d (.int k a)):=by exact rfl) (E:(A R B).opd y=some (.d (.int k' b)):=by exact rfl):HB (yI k a b) q r0 (WO P H ext mt ops (o::l) R B K):=
 λc=>tF c λr j c=>WO.shlG j hw C ho D E (h r c)
theorem bShrG{t t':TypeId}{x y:Operand}{k k':IntKind}{a b:Int}{q:(Int)->Option β}
  (h:∀r,HU (q r) r0 (WO P H ext mt ops l ((d,.d (.int k r))::R) B λz u ts=>K z u (⟨[],[]⟩::ts)))
  (ho:o.op= .binOp .shr t x y t':=by exact rfl) (C:o.dst=some d:=by exact rfl) (hw:tz ops (A R B) o=some true:=by exact rfl) (D:(A R B).opd x=some (.d (.int k a)):=by exact rfl) (E:(A R B).opd y=some (.d (.int k' b)):=by exact rfl):HB (BC k a b) q r0 (WO P H ext mt ops (o::l) R B K):=
 λc=>tF c λr j c=>WO.shrG j hw C ho D E (h r c)
theorem bElemG{α:Type}{g:α->PD}{li:List α}{t e:TypeId}{x i:Operand}{k:IntKind}{n:Int}{sz:Nat}{cs:(α)->List PD}{q:(α)->Option β}
  (h:∀y,HU (q y) r0 (WO P H ext mt ops l ((d,.cptr (cs y))::R) B λz u ts=>K z u (⟨[],[]⟩::ts)))
  (ho:o.op= .indexAddr t x i:=by exact rfl) (hc:∀y,(g y).cells=(cs y):=by intro _;exact rfl) (C:o.dst=some d:=by exact rfl) (hw:tz ops (A R B) o=some true:=by exact rfl) (E:(A R B).opd x=some (.d (.lst (li.map g))):=by exact rfl) (hi:(A R B).opd i=some (.d (.int k n)):=by exact rfl) (D:P.underlying t=some (.slice e):=by exact rfl) (F:szT P e=some sz:=by exact rfl) (c:∀y,(cs y).length=sz:=by intro _;exact rfl):HB (py li n) q r0 (WO P H ext mt ops (o::l) R B K):=
 λa=>tF a λy j a=>WO.Bk j hw C ho E hi D F (hc y) (c y) (h y a)
theorem bEltG{α:Type}{g:α->PD}{li:List α}{t e:TypeId}{x i:Operand}{k:IntKind}{n:Int}{id ver sz:Nat}{j:(Unit)->Option β}
  (h:∀y,HU (j y) r0 (WO P H ext mt ops l ((d,.elt id ver n.toNat 0)::R) B λu q ts=>K u q (⟨[id],[]⟩::ts)))
  (ho:o.op= .indexAddr t x i:=by exact rfl) (C:o.dst=some d:=by exact rfl) (hw:tz ops (A R B) o=some true:=by exact rfl) (E:(A R B).opd x=some (.ref id ver):=by exact rfl) (hi:(A R B).opd i=some (.d (.int k n)):=by exact rfl) (z:assoc B id=some (.arr ver e (li.map g)):=by exact rfl) (D:P.underlying t=some (.slice e):=by exact rfl) (F:szT P e=some sz:=by exact rfl):HB (inO li n) j r0 (WO P H ext mt ops (o::l) R B K):=
 λa=>tF a λy c a=>WO.uS c hw C ho E hi z D F (h y a)
theorem bEltGE{α:Type}{g:α->PD}{li:List α}{t e:TypeId}{x i:Operand}{k:IntKind}{n:Int}{id ver sz:Nat} [EN α g] {j:(Unit)->Option β}
  (h:∀y,HU (j y) r0 (WO P H ext mt ops l ((d,.elt id ver n.toNat 0)::R) B λu q ts=>K u q (⟨[id],[]⟩::ts)))
  (ho:o.op= .indexAddr t x i:=by exact rfl) (C:o.dst=some d:=by exact rfl) (hw:tz ops (A R B) o=some true:=by exact rfl) (E:(A R B).opd x=some (.ref id ver):=by exact rfl) (hi:(A R B).opd i=some (.d (.int k n)):=by exact rfl) (z:assoc B id=some (.arr ver e (li.map g)):=by exact rfl) (D:P.underlying t=some (.slice e):=by exact rfl) (F:szT P e=some sz:=by exact rfl):HB (inO li n) j r0 (WO P H ext mt ops (o::l) R B K):=
 λa=>tF a λy c a=>WO.uS c hw C ho E hi z D F (h y a)
theorem bLoadE{α:Type}{g:α->PD}{li:List α}{t e:TypeId}{a:Operand}{n:Int}{id ver off:Nat}{v:(α)->RV}{k:(α)->Option β}
  (h:∀y,HU (k y) r0 (WO P H ext mt ops l ((d,(v y))::R) B λu q ts=>K u q (⟨[id],[]⟩::ts)))
  (ho:o.op= .load t a:=by exact rfl) (x:(A R B).opd a=some (.elt id ver n.toNat off):=by exact rfl) (C:o.dst=some d:=by exact rfl) (hw:tz ops (A R B) o=some true:=by exact rfl) (z:assoc B id=some (.arr ver e (li.map g)):=by exact rfl) (D:∀y,wC P t ((g y).cells.drop off) (assoc B)=some (((v y),[]),[],true):=by intro _;exact rfl):HB (py li n) k r0 (WO P H ext mt ops (o::l) R B K):=
 λc=>tF c λy j c=>WO.uw j hw C ho x z (D y) (h y c)
theorem bAppR{α:Type}{g:α->PD}{li m:List α}{t e:TypeId}{x y:Operand}{c:Call}{id ver sz by_:Nat}{z:Value}{E:(List α)->Option β}
  (h:∀r,HU (E r) r0 (WO P H ext mt ops l ((d,.ref id (ver+1))::R) ((id,.arr (ver+1) e (r.map g))::B) λG F ts=>K G F (⟨[id],[id]⟩::ts)))
  (ho:o.op= .call c:=by exact rfl) (hc:c.callee= .builtin .append:=by exact rfl) (I:c.args.toList=[x,y]:=by exact rfl) (j:c.argTypes= #[t,t]:=by exact rfl) (L:o.dst=some d:=by exact rfl) (hw:tz ops (A R B) o=some true:=by exact rfl) (O:(A R B).opd x=some (.ref id ver):=by exact rfl) (J:assoc B id=some (.arr ver e (li.map g)):=by exact rfl) (N:uA P t=some e:=by exact rfl) (W:szT P e=some (sz+1):=by exact rfl) (k:uJ P e=some (by_+1):=by exact rfl) (T:(A R B).opd y=some (.d (.lst (m.map g))):=by exact rfl) (D:uE P e=some z:=by exact rfl) (C:z.cells.size=sz+1:=by exact rfl) (q:∀x,(g x).cells.length=sz+1:=by exact λ_=>rfl):HB (tE li m (by_+1)) E r0 (WO P H ext mt ops (o::l) R B K):=
 λa=>tF a λr u a=>WO.appR u q hw L ho hc I j O T J N W k D C (h r a)
theorem bAppN{α:Type}{g:α->PD}{m:List α}{t e:TypeId}{x y:Operand}{c:Call}{sz by_:Nat}{z:Value}{E:(List α)->Option β}
  (h:∀r,HU (E r) r0 (WO P H ext mt ops l ((d,.ref (d*16) 0)::R) ((d*16,.arr 0 e (r.map g))::B) λG F ts=>K G F (⟨[d*16],[d*16]⟩::ts)))
  (ho:o.op= .call c:=by exact rfl) (hc:c.callee= .builtin .append:=by exact rfl) (I:c.args.toList=[x,y]:=by exact rfl) (j:c.argTypes= #[t,t]:=by exact rfl) (L:o.dst=some d:=by exact rfl) (hw:tz ops (A R B) o=some true:=by exact rfl) (O:(A R B).opd x=some .tC:=by exact rfl) (J:assoc B (d*16)=none:=by exact rfl) (N:uA P t=some e:=by exact rfl) (W:szT P e=some (sz+1):=by exact rfl) (k:uJ P e=some (by_+1):=by exact rfl) (T:(A R B).opd y=some (.d (.lst (m.map g))):=by exact rfl) (D:uE P e=some z:=by exact rfl) (C:z.cells.size=sz+1:=by exact rfl) (q:∀x,(g x).cells.length=sz+1:=by exact λ_=>rfl):HB (tE [] m (by_+1)) E r0 (WO P H ext mt ops (o::l) R B K):=
 λa=>tF a λr u a=>WO.appN u q hw L ho hc I j O T J N W k D C (h r a)
theorem bAppNE{α:Type}{g:α->PD}{m:List α}{t e:TypeId}{x y:Operand}{c:Call}{sz by_:Nat}{z:Value} [EN α g] {E:(List α)->Option β}
  (h:∀r,HU (E r) r0 (WO P H ext mt ops l ((d,.ref (d*16) 0)::R) ((d*16,.arr 0 e (r.map g))::B) λG F ts=>K G F (⟨[d*16],[d*16]⟩::ts)))
  (ho:o.op= .call c:=by exact rfl) (hc:c.callee= .builtin .append:=by exact rfl) (I:c.args.toList=[x,y]:=by exact rfl) (j:c.argTypes= #[t,t]:=by exact rfl) (L:o.dst=some d:=by exact rfl) (hw:tz ops (A R B) o=some true:=by exact rfl) (O:(A R B).opd x=some .tC:=by exact rfl) (J:assoc B (d*16)=none:=by exact rfl) (N:uA P t=some e:=by exact rfl) (W:szT P e=some (sz+1):=by exact rfl) (k:uJ P e=some (by_+1):=by exact rfl) (T:(A R B).opd y=some (.d (.lst (m.map g))):=by exact rfl) (D:uE P e=some z:=by exact rfl) (C:z.cells.size=sz+1:=by exact rfl) (q:∀x,(g x).cells.length=sz+1:=by exact λ_=>rfl):HB (tE [] m (by_+1)) E r0 (WO P H ext mt ops (o::l) R B K):=
 λa=>tF a λr u a=>WO.appN u q hw L ho hc I j O T J N W k D C (h r a)
theorem bCutL{α:Type}{g:α->PD}{t e:TypeId}{x:Operand}{lo hi:Option Operand}{li:List α}{z y:Option RV}{a b:Int}{sz:Nat}{u:(List α)->Option β}
  (h:∀r,HU (u r) r0 (WO P H ext mt ops l ((d,.d (.lst (r.map g)))::R) B λD C ts=>K D C (⟨[],[]⟩::ts)))
  (ho:o.op= .slice t x lo hi none:=by exact rfl) (j:mt.lit (o.dst.getD 0)=false:=by exact rfl) (G:o.dst=some d:=by exact rfl) (hw:tz ops (A R B) o=some true:=by exact rfl) (N:(A R B).opd x=some (.d (.lst (li.map g))):=by exact rfl) (L:P.underlying t=some (.slice e):=by exact rfl) (O:szT P e=some sz:=by exact rfl) (J:ur (A R B) lo=some z:=by exact rfl) (I:ur (A R B) hi=some y:=by exact rfl) (E:bnd z 0=some a:=by exact rfl) (F:bnd y li.length=some b:=by exact rfl) (k:∀x,(g x).cells.length=sz:=by exact λ_=>rfl):HB (w6 li a b) u r0 (WO P H ext mt ops (o::l) R B K):=
 λc=>tF c λr q c=>WO.cutL q k j hw G ho N L O J I E F (h r c)
theorem bByteG{t:TypeId}{x i:Operand}{s:List UInt8}{k:IntKind}{n:Int}{q:(Int)->Option β}
  (h:∀c,HU (q c) r0 (WO P H ext mt ops l ((d,.d (.int .u8 c))::R) B λy u ts=>K y u (⟨[],[]⟩::ts)))
  (ho:o.op= .index t x i:=by exact rfl) (z:o.dst=some d:=by exact rfl) (hw:tz ops (A R B) o=some true:=by exact rfl) (D:(A R B).opd x=some (.d (.str s)):=by exact rfl) (hi:(A R B).opd i=some (.d (.int k n)):=by exact rfl) (C:P.underlying t=some .string:=by exact rfl):HB (wb s n) q r0 (WO P H ext mt ops (o::l) R B K):=
 λa=>tF a λc j a=>WO.byteG j hw z ho D hi C (h c a)
theorem bSubR{α:Type}{g:α->PD}{li:List α}{t e:TypeId}{x:Operand}{lo hi:Option Operand}{C z:Option RV}{a b:Int}{id ver sz:Nat}{u:(Unit)->Option β}
  (h:∀y,HU (u y) r0 (WO P H ext mt ops l ((d,.view id ver (0+a.toNat) (0+b.toNat))::R) B λE D ts=>K E D (⟨[id,id],[]⟩::ts)))
  (ho:o.op= .slice t x lo hi none:=by exact rfl) (k:mt.lit (o.dst.getD 0)=false:=by exact rfl) (I:o.dst=some d:=by exact rfl) (hw:tz ops (A R B) o=some true:=by exact rfl) (O:(A R B).opd x=some (.ref id ver):=by exact rfl) (G:assoc B id=some (.arr ver e (li.map g)):=by exact rfl) (N:P.underlying t=some (.slice e):=by exact rfl) (T:szT P e=some (sz+1):=by exact rfl) (L:ur (A R B) lo=some C:=by exact rfl) (J:ur (A R B) hi=some z:=by exact rfl) (F:bnd C 0=some a:=by exact rfl) (j:bnd z (li.length:Int)=some b:=by exact rfl):HB (wQ li.length a b) u r0 (WO P H ext mt ops (o::l) R B K):=
 λc=>tF c λy q c=>WO.AY q k hw I ho O G N T L J F j (h y c)
theorem bLenVw{α:Type}{g:α->PD}{li:List α}{t e:TypeId}{x:Operand}{c:Call}{id ver lo hi:Nat}{q:(Int)->Option β}
  (h:∀n,HU (q n) r0 (WO P H ext mt ops l ((d,.d (.int .i64 n))::R) B λy u ts=>K y u (⟨[id],[]⟩::ts)))
  (ho:o.op= .call c:=by exact rfl) (hc:c.callee= .builtin .len:=by exact rfl) (z:c.args.toList=[x]:=by exact rfl) (j:c.argTypes= #[t]:=by exact rfl) (D:o.dst=some d:=by exact rfl) (hw:tz ops (A R B) o=some true:=by exact rfl) (F:(A R B).opd x=some (.view id ver lo hi):=by exact rfl) (C:assoc B id=some (.arr ver e (li.map g)):=by exact rfl) (E:P.underlying t=some (.slice e):=by exact rfl):HB (lenV li.length lo hi) q r0 (WO P H ext mt ops (o::l) R B K):=
 λa=>tF a λn k a=>WO.lenVw k hw D ho hc z j F C E (h n a)
theorem bEltV{α:Type}{g:α->PD}{li:List α}{t e:TypeId}{x i:Operand}{k:IntKind}{n:Int}{id ver lo hi sz:Nat}{q:(Unit)->Option β}
  (h:∀y,HU (q y) r0 (WO P H ext mt ops l ((d,.elt id ver (lo+n.toNat) 0)::R) B λz u ts=>K z u (⟨[id],[]⟩::ts)))
  (ho:o.op= .indexAddr t x i:=by exact rfl) (D:o.dst=some d:=by exact rfl) (hw:tz ops (A R B) o=some true:=by exact rfl) (F:(A R B).opd x=some (.view id ver lo hi):=by exact rfl) (c:(A R B).opd i=some (.d (.int k n)):=by exact rfl) (C:assoc B id=some (.arr ver e (li.map g)):=by exact rfl) (E:P.underlying t=some (.slice e):=by exact rfl) (G:szT P e=some sz:=by exact rfl):HB (inV li.length lo hi n) q r0 (WO P H ext mt ops (o::l) R B K):=
 λa=>tF a λy j a=>WO.eltV j hw D ho F c C E G (h y a)
theorem bStoreE{α:Type}{g:α->PD}{li:List α}{t e:TypeId}{a x:Operand}{n:Int}{id ver sz:Nat}{y:α}{p:PD}{z:(List α)->Option β}
  (h:∀r,HU (z r) r0 (WO P H ext mt ops l R ((id,.arr ver e (r.map g))::B) λD C ts=>K D C (⟨[id],[id]⟩::ts)))
  (ho:o.op= .store t a x:=by exact rfl) (E:(A R B).opd a=some (.elt id ver n.toNat 0):=by exact rfl) (G:o.dst=none:=by exact rfl) (hw:tz ops (A R B) o=some true:=by exact rfl) (I:(A R B).opd x=some (.d p):=by exact rfl) (F:assoc B id=some (.arr ver e (li.map g)):=by exact rfl) (J:szT P t=some sz:=by exact rfl) (q:∀x,(g x).cells.length=sz:=by exact λ_=>rfl) (k:∀x,(g x).put 0 p.cells=g y:=by first|exact λ_=>rfl|(intro _;kernel_rfl)) (hs:(RV.d p).sized=true:=by exact rfl) (j:p.cells.length=sz:=by exact rfl):HB (vd li n y) z r0 (WO P H ext mt ops (o::l) R B K):=
 λc=>tF c λr u c=>WO.xu u q k hw G ho E I F J hs j (h r c)
theorem bResl{α:Type}{g:α->PD}{li:List α}{t e:TypeId}{x:Operand}{lo hi:Option Operand}{k:IntKind}{b:Int}{id ver sz d:Nat}{D C:Option RV}{z:(Unit)->Option β}
  (h:∀y,HU (z y) r0 (WO P H ext mt ops l ((d,.ref id (ver+1))::R) ((id,.arr (ver+1) e ((li.take b.toNat).map g))::B) λF E ts=>K F E (⟨[id],[id]⟩::ts)))
  (ho:o.op= .slice t x lo hi none:=by exact rfl) (c:mt.lit (o.dst.getD 0)=true:=by exact rfl) (I:o.dst=some d:=by exact rfl) (hw:tz ops (A R B) o=some true:=by exact rfl) (O:(A R B).opd x=some (.ref id ver):=by exact rfl) (G:assoc B id=some (.arr ver e (li.map g)):=by exact rfl) (N:P.underlying t=some (.slice e):=by exact rfl) (T:szT P e=some (sz+1):=by exact rfl) (L:ur (A R B) lo=some D:=by exact rfl) (J:ur (A R B) hi=some C:=by exact rfl) (q:D=none:=by exact rfl) (j:C=some (.d (.int k b)):=by exact rfl):HB (wQ li.length 0 b) z r0 (WO P H ext mt ops (o::l) R B K):=
 λa=>tF a λy u a=>WO.resl u c hw I ho O G N T L J q j (h y a)
theorem bMkS{α:Type}{g:α->PD}{z:α}{n:Int}{t e:TypeId}{x y:Operand}{k k':IntKind}{sz by_:Nat}{C:(List α)->Option β}
  (h:∀r,HU (C r) r0 (WO P H ext mt ops l ((d,.ref (d*16) 0)::R) ((d*16,.arr 0 e (r.map g))::B) λE D ts=>K E D (⟨[d*16],[d*16]⟩::ts)))
  (ho:o.op= .makeSlice t x y:=by exact rfl) (G:o.dst=some d:=by exact rfl) (hw:tz ops (A R B) o=some true:=by exact rfl) (J:(A R B).opd x=some (.d (.int k n)):=by exact rfl) (F:assoc B (d*16)=none:=by exact rfl) (I:uA P t=some e:=by exact rfl) (N:(uE P e).bind vB=some (g z):=by exact rfl) (c:uJ P e=some by_:=by exact rfl) (L:(A R B).opd y=some (.d (.int k' n)):=by exact rfl) (u:(g z).cells.length=sz+1:=by kernel_rfl) (j:szT P e=some (sz+1):=by exact rfl):HB (mkO n z by_) C r0 (WO P H ext mt ops (o::l) R B K):=
 λa=>tF a λr q a=>WO.mkS q u hw G ho J L F I j c N (h r a)
theorem bMkC{α:Type}{g:α->PD}{z:α}{n m:Int}{t e:TypeId}{x y:Operand}{k k':IntKind}{sz by_:Nat}{C:(List α)->Option β}
  (h:∀r,HU (C r) r0 (WO P H ext mt ops l ((d,.ref (d*16) 0)::R) ((d*16,.arr 0 e (r.map g))::B) λE D ts=>K E D (⟨[d*16],[d*16]⟩::ts)))
  (ho:o.op= .makeSlice t x y:=by exact rfl) (G:o.dst=some d:=by exact rfl) (hw:tz ops (A R B) o=some true:=by exact rfl) (J:(A R B).opd x=some (.d (.int k n)):=by exact rfl) (F:assoc B (d*16)=none:=by exact rfl) (I:uA P t=some e:=by exact rfl) (N:(uE P e).bind vB=some (g z):=by exact rfl) (c:uJ P e=some by_:=by exact rfl) (L:(A R B).opd y=some (.d (.int k' m)):=by exact rfl) (u:(g z).cells.length=sz+1:=by kernel_rfl) (j:szT P e=some (sz+1):=by exact rfl):HB (zr n m z by_) C r0 (WO P H ext mt ops (o::l) R B K):=
 λa=>tF a λr q a=>WO.mkC q u hw G ho J L F I j c N (h r a)
theorem bMkCE{α:Type}{g:α->PD}{z:α}{n m:Int}{t e:TypeId}{x y:Operand}{k k':IntKind}{sz by_:Nat} [EN α g] {C:(List α)->Option β}
  (h:∀r,HU (C r) r0 (WO P H ext mt ops l ((d,.ref (d*16) 0)::R) ((d*16,.arr 0 e (r.map g))::B) λE D ts=>K E D (⟨[d*16],[d*16]⟩::ts)))
  (ho:o.op= .makeSlice t x y:=by exact rfl) (G:o.dst=some d:=by exact rfl) (hw:tz ops (A R B) o=some true:=by exact rfl) (J:(A R B).opd x=some (.d (.int k n)):=by exact rfl) (F:assoc B (d*16)=none:=by exact rfl) (I:uA P t=some e:=by exact rfl) (N:(uE P e).bind vB=some (g z):=by exact rfl) (c:uJ P e=some by_:=by exact rfl) (L:(A R B).opd y=some (.d (.int k' m)):=by exact rfl) (u:(g z).cells.length=sz+1:=by kernel_rfl) (j:szT P e=some (sz+1):=by exact rfl):HB (zr n m z by_) C r0 (WO P H ext mt ops (o::l) R B K):=
 λa=>tF a λr q a=>WO.mkC q u hw G ho J L F I j c N (h r a)
theorem bStoreF{α:Type}{g:α->PD}{f:α->α}{li:List α}{t e:TypeId}{a x:Operand}{n:Int}{id ver off sz:Nat}{v:RV}{p:PD}{u:Ups}{rd:List Nat}{D:(List α)->Option β}
  (h:∀r,HU (D r) r0 (WO P H ext mt ops l R (zI (u++[(id,Box.arr ver e (r.map g))]) B) λF E ts=>K F E (⟨[id]++rd,(u++[(id,Box.arr ver e (r.map g))]).map (·.1)⟩::ts)))
  (ho:o.op= .store t a x:=by exact rfl) (G:(A R B).opd a=some (.elt id ver n.toNat off):=by exact rfl) (J:o.dst=none:=by exact rfl) (hw:tz ops (A R B) o=some true:=by exact rfl) (L:(A R B).opd x=some v:=by exact rfl) (I:assoc B id=some (.arr ver e (li.map g)):=by exact rfl) (N:szT P t=some sz:=by exact rfl) (y:∀x,(g x).put off p.cells=g (f x):=by first|exact λ_=>rfl|(intro _;kernel_rfl)) (c:∀x,off+sz<=(g x).cells.length:=by exact λ_=>Nat.le_of_ble_eq_true rfl) (hs:v.sized=true:=by exact rfl) (z:wv v (assoc B)=some ((p,u),rd,true):=by exact rfl) (k:(u.map (·.1)).contains id=false:=by exact rfl) (q:p.cells.length=sz:=by exact rfl):HB (yh li n f) D r0 (WO P H ext mt ops (o::l) R B K):=
 λj=>tF j λr C j=>WO.BD C y c hw J ho G L I N hs z k q (h r j)
theorem bStoreFE{α:Type}{g:α->PD}{f:α->α}{li:List α}{t e:TypeId}{a x:Operand}{n:Int}{id ver off sz:Nat}{v:RV}{p:PD}{u:Ups}{rd:List Nat} [EN α g] {D:(List α)->Option β}
  (h:∀r,HU (D r) r0 (WO P H ext mt ops l R (zI (u++[(id,Box.arr ver e (r.map g))]) B) λF E ts=>K F E (⟨[id]++rd,(u++[(id,Box.arr ver e (r.map g))]).map (·.1)⟩::ts)))
  (ho:o.op= .store t a x:=by exact rfl) (G:(A R B).opd a=some (.elt id ver n.toNat off):=by exact rfl) (J:o.dst=none:=by exact rfl) (hw:tz ops (A R B) o=some true:=by exact rfl) (L:(A R B).opd x=some v:=by exact rfl) (I:assoc B id=some (.arr ver e (li.map g)):=by exact rfl) (N:szT P t=some sz:=by exact rfl) (y:∀x,(g x).put off p.cells=g (f x):=by first|exact λ_=>rfl|(intro _;kernel_rfl)) (c:∀x,off+sz<=(g x).cells.length:=by exact λ_=>Nat.le_of_ble_eq_true rfl) (hs:v.sized=true:=by exact rfl) (z:wv v (assoc B)=some ((p,u),rd,true):=by exact rfl) (k:(u.map (·.1)).contains id=false:=by exact rfl) (q:p.cells.length=sz:=by exact rfl):HB (yh li n f) D r0 (WO P H ext mt ops (o::l) R B K):=
 λj=>tF j λr C j=>WO.BD C y c hw J ho G L I N hs z k q (h r j)
end
theorem au {p : Prop} (h : p := by
 repeat' (first
  |with_reducible refine HU.b ?_
  |((with_reducible refine HU.v (λe=>?_) (λe=>?_))<;>subst e)
  |with_reducible refine HU.i ?_
  |with_reducible refine HU.s ?_
  |refine HU.b ?_
  |(refine HU.v (λe=>?_) (λe=>?_)<;>subst e)
  |refine HU.i ?_
  |refine HU.s ?_
  |with_reducible refine aN ?_
  |with_reducible refine kP ?_
  |with_reducible refine kQ ?_
  | ((with_reducible refine kW ?_); first
    |((with_reducible refine kS ?_);refine aK ?_)
    |((with_reducible refine kO (op:= .move _) ?_);refine aM ?_)
    |((with_reducible refine kO (op:= .assign _) ?_);refine aA ?_)
    |((with_reducible refine kO (op:= .load _ _) ?_);first|refine aL ?_|((with_reducible refine HF.o ?_);refine aF ?_ ?_)|((with_reducible refine HB.o ?_);first|refine bLoadE λ_=>?_)|refine aV ?_)
    |((with_reducible refine kO (op:= .build _ _) ?_);first|refine aP ?_|refine aV ?_)
    |((with_reducible refine kO (op:= .fieldAddr _ _ _) ?_);refine aV ?_)
    |((with_reducible refine kO (op:= .nilCheck _) ?_);refine aV ?_)
    |((with_reducible refine kO (op:= .field _ _ _) ?_);refine aV ?_)
    |((with_reducible refine kO (op:= .binOp .quo _ _ _ _) ?_);first|((with_reducible refine HB.o ?_);first|refine bQuoG λ_=>?_)|refine aV ?_)
    |((with_reducible refine kO (op:= .binOp .rem _ _ _ _) ?_);first|((with_reducible refine HB.o ?_);first|refine bRemG λ_=>?_)|refine aV ?_)
    |((with_reducible refine kO (op:= .binOp .shl _ _ _ _) ?_);first|refine aV ?_|((with_reducible refine HB.o ?_);first|refine bShlG λ_=>?_))
    |((with_reducible refine kO (op:= .binOp .shr _ _ _ _) ?_);first|refine aV ?_|((with_reducible refine HB.o ?_);first|refine bShrG λ_=>?_))
    |((with_reducible refine kO (op:= .binOp .add _ _ _ _) ?_);first|refine aV ?_)
    |((with_reducible refine kO (op:= .binOp .sub _ _ _ _) ?_);refine aV ?_)
    |((with_reducible refine kO (op:= .binOp .mul _ _ _ _) ?_);refine aV ?_)
    |((with_reducible refine kO (op:= .binOp .eql _ _ _ _) ?_);first|((with_reducible refine HF.o ?_);refine aF ?_ ?_)|((with_reducible refine HF.o ?_);refine aFk ?_ ?_)|refine aT ?_|refine aU ?_|refine aV ?_)
    |((with_reducible refine kO (op:= .binOp .neq _ _ _ _) ?_);first|((with_reducible refine HF.o ?_);refine aF ?_ ?_)|((with_reducible refine HF.o ?_);refine aFk ?_ ?_)|refine aT ?_|refine aU ?_|refine aV ?_)
    |((with_reducible refine kO (op:= .binOp _ _ _ _ _) ?_);first|((with_reducible refine HF.o ?_);refine aF ?_ ?_)|refine aT ?_|refine aU ?_|refine aV ?_)
    |((with_reducible refine kO (op:= .call ⟨.value _,_,_⟩) ?_);first|((with_reducible refine HB.o ?_);refine HB.n λ_ a=>?_;first|refine aC a ?_|refine aD a ?_))
    |((with_reducible refine kO (op:= .call ⟨.builtin .append,_,_⟩) ?_);first|((with_reducible refine HB.o ?_);first|refine bAppR λ_=>?_|refine bAppN λ_=>?_|refine bAppNE λ_=>?_))
    |((with_reducible refine kO (op:= .call ⟨.builtin .len,_,_⟩) ?_);first|refine aZ ?_|refine HM.i (λe=>WO.Au rfl rfl rfl rfl rfl rfl rfl rfl rfl e) ?_|refine aV ?_|((with_reducible refine HB.o ?_);first|refine bLenVw λ_=>?_))
    |((with_reducible refine kO (op:= .call _) ?_);refine aV ?_)
    |((with_reducible refine kO (op:= .indexAddr _ _ _) ?_);first|((with_reducible refine HB.o ?_);first|refine bElemG λ_=>?_|refine bEltG λ_=>?_|refine bEltGE λ_=>?_|refine bEltV λ_=>?_)|refine aV ?_)
    |((with_reducible refine kO (op:= .index _ _ _) ?_);first|((with_reducible refine HB.o ?_);first|refine bByteG λ_=>?_)|refine aV ?_)
    |((with_reducible refine kO (op:= .slice _ _ _ _ _) ?_);first|((with_reducible refine HB.o ?_);first|refine bCutL λ_=>?_|refine bSubR λ_=>?_|refine bResl λ_=>?_)|refine aV ?_)
    |((with_reducible refine kO (op:= .store _ _ _) ?_);first|refine aS ?_|((with_reducible refine HB.o ?_);first|refine bStoreE λ_=>?_|refine bStoreF λ_=>?_|refine bStoreFE λ_=>?_))
    |((with_reducible refine kO (op:= .alloc _) ?_);refine aW ?_)
    |((with_reducible refine kO (op:= .box _ _) ?_);refine aX ?_)
    |((with_reducible refine kO (op:= .buildSlice _ _ _) ?_);first|refine aV ?_|refine aY ?_|refine aB ?_)
    |((with_reducible refine kO (op:= .makeSlice _ _ _) ?_);first|((with_reducible refine HB.o ?_);first|refine bMkS λ_=>?_|refine bMkC λ_=>?_|refine bMkCE λ_=>?_))
    |((with_reducible refine kO (op:= .unOp _ _ _) ?_);first|((with_reducible refine HF.o ?_);refine aF ?_ ?_)|refine aV ?_)
    |((with_reducible refine kO (op:=_) ?_);first|refine aV ?_))
  | ((with_reducible refine kC ?_); first
    |((with_reducible refine kC (c:= .seq (.region _ _ false) _) ?_);first|refine aG0 ?_|refine aG ?_)
    |((with_reducible refine kC (c:= .seq (.region _ _ true) _) ?_);first|refine aGD0 ?_|refine aGD ?_)
    |((with_reducible refine kC (c:= .region _ _ false) ?_);first|refine aH0 ?_|refine aH ?_)
    |((with_reducible refine kC (c:= .region _ _ true) ?_);first|refine aHD0 ?_|refine aHD ?_)
    |((with_reducible refine kC (c:= .seq _ _) ?_);refine aQ ?_)
    |((with_reducible refine kC (c:= .cond _ _ _) ?_);first|refine HM.i (λe=>cT e) ?_|refine HM.i (λe=>cF e) ?_|((with_reducible refine HF.o ?_);refine aI ?_ ?_))
    |((with_reducible refine kC (c:= .block _ (.loop _)) ?_);first|((with_reducible refine HB.o ?_);refine aJ ?_ ?_)|refine aO ?_)
    |((with_reducible refine kC (c:= .block _ _) ?_);refine aO ?_)
    |((with_reducible refine kC (c:= .loop _) ?_);refine aRl ?_)
    |((with_reducible refine kC (c:= .skip) ?_);refine HM.i qK ?_)
    |((with_reducible refine kC (c:= .exit _) ?_);refine HM.i qX ?_)
    |((with_reducible refine kC (c:= .ret) ?_);refine HM.i qR ?_)
    |((with_reducible refine kC (c:= .scope _) ?_);refine HM.i WC.scope ?_)
    |((with_reducible refine kC (c:= .label _) ?_);first|refine HM.i WC.label ?_))
  | ((with_reducible refine kI ?_); first
    |((with_reducible refine kI (c:= .seq (.region _ _ false) _) ?_);refine iG ?_)
    |((with_reducible refine kI (c:= .seq (.region _ _ true) _) ?_);refine iGD ?_)
    |((with_reducible refine kI (c:= .region _ _ false) ?_);refine iH ?_)
    |((with_reducible refine kI (c:= .region _ _ true) ?_);refine iHD ?_)
    |((with_reducible refine kI (c:= .seq .skip _) ?_);refine iK ?_)
    |((with_reducible refine kI (c:= .seq _ _) ?_);refine iQ ?_)
    |((with_reducible refine kI (c:= .block _ _) ?_);refine iO ?_)
    |((with_reducible refine kI (c:= .scope _) ?_);first|refine iS ?_))
  |with_reducible refine jS ?_
  |with_reducible refine jB ?_
  |with_reducible refine jE ?_
  |with_reducible refine aRr ?_
  |with_reducible refine aWn ?_
  |with_reducible refine aWr ?_
  |with_reducible refine aWx ?_
  |with_reducible refine aQn ?_
  |with_reducible refine aQr ?_
  |with_reducible refine aQx ?_
  |with_reducible refine aOn ?_
  |with_reducible refine aOr ?_
  |with_reducible refine aOx ?_
  |with_reducible refine aOy ?_
  |((with_reducible refine kE ?_);refine aE ?_)
  |with_reducible refine aJX ?_
  |with_reducible refine aJR ?_
  |with_reducible refine aJY ?_ ?_
  |with_reducible refine pF ?_
  |intro _
  |(refine HM.e λe=>?_;cases e)
  |exact doneR (by assumption)
  |exact qG
  |exact QLn rfl
  |exact QLn (by assumption)
  |exact QLx ⟨rfl,rfl⟩
  |exact QLr ⟨rfl,rfl⟩
  |exact QLr ⟨rfl,by assumption⟩
  |exact qD)):p:=h
theorem Ev.au{P:Program}{H:Hints}{ext:FuncId->Option tI}{f:FuncId}{β:Type}{m:Option β}{r:β}{args:List RV}{bs a:List Box}{x:RV}{fn:Func}{c:Code}(h:m=some r)(hf:P.funcs[f]? =some fn)
  (j : fn.body = some c := by exact rfl) (t : ext f = none := by exact rfl) (k : (zS fn.ntmps c && (fn.name != "runtime.NumGoroutine") && decide (args.length ≤ fn.ntmps) && bs.all (λb => verB b == 0)) = true := by kernel_rfl)
  (q:HU m r (WC P H ext f bs.length c (yt 0 args) (yt 0 bs) (vh P (H.own f) fn bs.length x a)):=by exact au):Ev P H ext f args bs x a:=Ev.body t hf j k (q h)
end Go.Dw
