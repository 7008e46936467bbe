
import Derived.Orders
set_option linter.unusedVariables false
set_option linter.unusedSimpArgs false
open List renaming replicate->EA

namespace Go.Dw
theorem za{p:Prop}(h:p:=by omega):p:=h
theorem zb{p:Prop}(h:p:=by simp):p:=h
theorem so{p:Prop}(h:p:=by simp;omega):p:=h
theorem zc{p:Prop}(h:p:=by simp only;omega):p:=h
theorem zd{α β:Type}(a:α)(f:α->Option β):(some a).bind f=f a:=rfl
theorem ze{α:Type}{l:List α}{i:Nat}(h:i<l.length):l[i]? =some l[i]:=List.getElem?_eq_getElem h
inductive PD where
 |bool (b:Bool)
 |int (k:IntKind) (n:Int)
 |str (s:List UInt8)
 |lst (es:List PD)
 |agg (cs:List PD)
 |raw (v:Value)
 deriving Inhabited
inductive RV where
 |d (p:PD)
 |undef
 |junk
 |tC
 |agg (cs:List RV)
 |tup (cs:List RV)
 |ref (id ver:Nat)
 |ptr (id off:Nat)
 |elt (id ver i o:Nat)
 |cptr (cs:List PD)
 |view (id ver lo hi:Nat)
 |clo (f:FuncId) (cs:List RV)
 |err (ok:Bool)
 |ifc (t:TypeId) (c:RV)
 |plit (cs:List RV)
 |pcp (c:RV)
 deriving Inhabited
inductive Box where
 |var (cs:List RV)
 |arr (ver:Nat) (e:TypeId) (es:List PD)
 |dead
 |nest (ver:Nat) (e e2:TypeId) (ess:List (List PD)) (lent:Option (Nat×RV))
 deriving Inhabited
abbrev tY:=Nat->Option Box
abbrev Ups:=List (Nat×Box)
def M(α:Type):Type:=tY->Option (α×List Nat×Bool)
namespace M
def pure{α:Type}(a:α):M α:=λ_=>some (a,[],true)
def bind{α β:Type}(m:M α)(f:α->M β):M β:=λb=>
 match m b with
 |some (a,r,c)=>
  match f a b with
  |some (x,j,g)=>some (x,r++j,c&&g)
  |none=>none
 |none=>none
def fail{α:Type}:M α:=λ_=>none
def get(id:Nat):M Box:=λb=>match b id with|some x=>some (x,[id],true)|none=>none
def uj(id:Nat):M Unit:=λb=>match b id with|some _=>none|none=>some ((),[id],true)
def tL{α:Type}(c:Bool)(a:α):M α:=λ_=>some (a,[],c)
end M
def PD.cells:PD->List PD
 | .agg cs=>cs
 |p=>[p]
def PD.one:PD->Bool
 | .agg _=>false
 |_=>true
def RV.cells:RV->List RV
 | .agg cs=>cs
 | .d (.agg cs)=>cs.map .d
 |v=>[v]
def RV.one:RV->Bool
 | .d p=>p.one
 | .tC| .ref _ _| .ptr _ _| .elt _ _ _ _| .cptr _| .view _ _ _ _| .clo _ _| .err _| .ifc _ _| .plit _| .pcp _=>true
 |_=>false
def RV.sized(v:RV):Bool:=v.cells.all RV.one
def AW:PD:= .raw (.slice none 0 0)
def Bs:PD->Bool
 | .raw (.slice none 0 0)=>true
 |_=>false
def isNils:RV->Bool
 | .tC=>true
 |_=>false
inductive NC where
 |row (e:TypeId) (es:List PD)
 |val (v:RV)
def ncs(e2:TypeId)(ess:List (List PD)):Option (Nat×RV)->List NC
 |none=>ess.map (.row e2)
 |some (i,rv)=>(ess.map (.row e2)).set i (.val rv)
def yn:List RV->Option (List PD)
 | []=>some []
 | .d p::r=>match yn r with|some l=>some (p::l)|none=>none
 |_=>none
def BT(cs:List RV):RV:=match yn cs with|some l=>.d (.agg l)|none=>.agg cs
def zf:RV->M (PD×Ups)
 | .d p=>M.pure (p,[])
 | .tC=>M.pure (.lst [],[])
 | .ref id ver=>M.bind (M.get id) fun
  | .arr a _ es=>if ver=a then M.pure (.lst es,[(id,.dead)])else M.fail
  |_=>M.fail
 | .view id ver lo hi=>M.bind (M.get id) fun
  | .arr a _ es=>if ver=a then M.tL (decide (lo<=hi∧hi<=es.length)) (.lst ((es.drop lo).take (hi-lo)),[(id,.dead)])else M.fail
  |_=>M.fail
 |_=>M.fail
def xj:List RV->M (List PD×Ups)
 | []=>M.pure ([],[])
 |c::r=>M.bind (zf c) fun(p,u)=>M.bind (xj r) fun(a,us)=>M.pure (p::a,u++us)
def AZ(cs:List RV):Bool:= !cs.isEmpty&&cs.all isNils
def zo(mt:Bool)(cs:List RV):M (List PD×Ups):=if mt&&AZ cs then M.pure (cs.map λ_=>AW,[])else xj cs
def wv(v:RV):M (PD×Ups):=
 match v with
 | .agg cs=>M.bind (xj cs) fun(a,u)=>M.pure (.agg a,u)
 |v=>zf v
def ue(P:Program)(t:TypeId):Bool:=
 match P.underlying t with
 |some (.struct _)|some (.array _ _)=>true
 |_=>false
def szT(P:Program)(t:TypeId):Option Nat:=(P.info? t).map (·.size)
def uJ(P:Program)(t:TypeId):Option Nat:=(P.info? t).map (·.bytes)
def uE(P:Program)(t:TypeId):Option Value:=(P.info? t).bind (·.zero)
def uA(P:Program)(t:TypeId):Option TypeId:=
 match P.underlying t with
 |some (.slice e)=>some e
 |_=>none
def vO:Value->RV
 | .bool b=>.d (.bool b)
 | .int k n=>.d (.int k n)
 | .string s=>.d (.str s.data.toList)
 | .slice none 0 0=>.tC
 | .func (.func f) ⟨[]⟩ ⟨[]⟩=>.d (.raw (.func (.func f) #[] #[]))
 | .nilFunc=>.d (.raw .nilFunc)
 | .nilIface=>.d (.raw .nilIface)
 | .pointer none=>.d (.raw (.pointer none))
 |_=>.junk
def uh:Value->RV
 | .agg cs=>.agg (cs.toList.map vO)
 |v=>vO v
def andI(k:IntKind)(x y:Int):Int:=k.wrap (((BitVec.ofInt k.bits x &&& BitVec.ofInt k.bits y).toNat:Nat):Int)
def orI(k:IntKind)(x y:Int):Int:=k.wrap (((BitVec.ofInt k.bits x ||| BitVec.ofInt k.bits y).toNat:Nat):Int)
def xorI(k:IntKind)(x y:Int):Int:=k.wrap (((BitVec.ofInt k.bits x ^^^ BitVec.ofInt k.bits y).toNat:Nat):Int)
def B6(k:IntKind)(x y:Int):Int:=k.wrap (((BitVec.ofInt k.bits x &&& ~~~ BitVec.ofInt k.bits y).toNat:Nat):Int)
def xG(k:IntKind)(x y:Int):Int:=k.wrap (x*2 ^ (min y.toNat k.bits))
def tU(k:IntKind)(x y:Int):Int:=x.fdiv (2 ^ (min y.toNat k.bits))
def Aq(op:BinOp)(k:IntKind)(x y:Int):Option (PD×Bool):=
 match op with
 | .add=>some (.int k (k.wrap (x+y)),true)
 | .sub=>some (.int k (k.wrap (x-y)),true)
 | .mul=>some (.int k (k.wrap (x*y)),true)
 | .quo=>some (.int k (k.wrap (x.tdiv y)),y != 0)
 | .rem=>some (.int k (x.tmod y),y != 0)
 | .eql=>some (.bool (x==y),true)
 | .neq=>some (.bool (x != y),true)
 | .lss=>some (.bool (decide (x<y)),true)
 | .leq=>some (.bool (decide (x<=y)),true)
 | .gtr=>some (.bool (decide (x>y)),true)
 | .geq=>some (.bool (decide (x>=y)),true)
 | .and=>some (.int k (andI k x y),true)
 | .or=>some (.int k (orI k x y),true)
 | .xor=>some (.int k (xorI k x y),true)
 | .andNot=>some (.int k (B6 k x y),true)
 |_=>none
def DQ(op:BinOp)(x y:List UInt8):Option (PD×Bool):=
 match op with
 | .add=>some (.str (x++y),decide (((x.length+y.length:Nat):Int)<=IntKind.i64.max))
 | .eql=>some (.bool (x==y),true)
 | .neq=>some (.bool !(x==y),true)
 | .lss=>some (.bool (Op.bytesLess x y),true)
 | .leq=>some (.bool (Op.bytesLess x y||x==y),true)
 | .gtr=>some (.bool !(Op.bytesLess x y||x==y),true)
 | .geq=>some (.bool !(Op.bytesLess x y),true)
 |_=>none
def AF(op:BinOp)(x y:RV):Option (PD×Bool):=
 match x,y with
 | .d (.int k a),.d (.int k' b)=>(match op with| .shl=>some (.int k (xG k a b),decide (0<=b))| .shr=>some (.int k (tU k a b),decide (0<=b))|op=>if k=k' then Aq op k a b else none)
 | .d (.str a),.d (.str b)=>DQ op a b
 |_,_=>none
def yg(o:Option (PD×Bool)):M (RV×Ups):=match o with|some (p,c)=>M.tL c (.d p,[])|none=>M.fail
def uB(v:RV):M (RV×Ups):=M.pure (v,[])
def tZ(c:Bool)(v:RV):M (RV×Ups):=M.tL c (v,[])
def wy(P:Program)(t:TypeId):Option (Bool×Nat):=
 match P.underlying t,szT P t with
 |some _,some n=>some (ue P t,n)
 |_,_=>none
def wC(P:Program)(t:TypeId)(cs:List PD):M (RV×Ups):=
 match wy P t with
 |none=>M.fail
 |some (true,n)=>tZ (decide (n<=cs.length)) (.d (.agg (cs.take n)))
 |some (false,_)=>match cs with|c::_=>uB (.d c)| []=>M.fail
def wk(P:Program)(t:TypeId)(cs:List RV)(off:Nat):M (RV×Ups):=
 match wy P t with
 |none=>M.fail
 |some (true,n)=>tZ (decide (off+n<=cs.length)) (BT ((cs.drop off).take n))
 |some (false,_)=>match cs[off]? with|some c=>uB c|none=>M.fail
def yF(P:Program)(t:TypeId)(cs:List PD)(off:Nat):Option PD:=
 match wy P t with
 |some (true,n)=>if off+n<=cs.length then some (.agg ((cs.drop off).take n))else none
 |some (false,_)=>cs[off]?
 |none=>none
def eqFs(P:Program)(rec:TypeId->PD->PD->Option Bool)(xs ys:List PD):List Field->Option Bool
 | []=>some true
 |f::r=>
  if f.name = "_" then none else
  match yF P f.type xs f.offset,yF P f.type ys f.offset with
  |some a,some b=>(match rec f.type a b,eqFs P rec xs ys r with|some p,some q=>some (p&&q)|_,_=>none)
  |_,_=>none
def BP(P:Program)(rec:PD->PD->Option Bool)(e:TypeId)(k:Nat)(xs ys:List PD):List Nat->Option Bool
 | []=>some true
 |i::r=>
  match yF P e xs (i*k),yF P e ys (i*k)with
  |some a,some b=>(match rec a b,BP P rec e k xs ys r with|some p,some q=>some (p&&q)|_,_=>none)
  |_,_=>none
def eqPD(P:Program):Nat->TypeId->PD->PD->Option Bool
 |0,_,_,_=>none
 |d+1,t,x,y=>
  match P.underlying t,x,y with
  |some .bool,.bool a,.bool b=>some (a==b)
  |some (.int _),.int k a,.int k' b=>if k=k' then some (a==b)else none
  |some .string,.str a,.str b=>some (a==b)
  |some (.struct c),.agg xs,.agg ys=>if P.stoodInHeld t then none else eqFs P (eqPD P d) xs ys c.toList
  |some (.array n e),.agg xs,.agg ys=>(match P.info? e with|some _=>BP P (eqPD P d e) e (P.cellsOf e) xs ys (List.range n)|none=>none)
  |_,_,_=>none
def eqOp(P:Program)(op:BinOp)(t:TypeId)(x y:RV):Option (PD×Bool):=
 match op,x,y with
 | .eql,.d (.bool a),.d (.bool b)=>(match eqPD P 1 t (.bool a) (.bool b)with|some r=>some (.bool r,true)|none=>none)
 | .neq,.d (.bool a),.d (.bool b)=>(match eqPD P 1 t (.bool a) (.bool b)with|some r=>some (.bool !r,true)|none=>none)
 | .eql,.d (.agg a),.d (.agg b)=>if P.eqGuardType P.depth t then none else(match eqPD P 20 t (.agg a) (.agg b)with|some r=>some (.bool r,true)|none=>none)
 | .neq,.d (.agg a),.d (.agg b)=>if P.eqGuardType P.depth t then none else(match eqPD P 20 t (.agg a) (.agg b)with|some r=>some (.bool !r,true)|none=>none)
 | .eql,.d (.lst es),.tC=>(match P.underlying t with|some (.slice _)=>some (.bool false, !es.isEmpty)|_=>none)
 | .neq,.d (.lst es),.tC=>(match P.underlying t with|some (.slice _)=>some (.bool true, !es.isEmpty)|_=>none)
 | .eql,.tC,.tC=>(match P.underlying t with|some (.slice _)=>some (.bool true,true)|_=>none)
 | .neq,.tC,.tC=>(match P.underlying t with|some (.slice _)=>some (.bool false,true)|_=>none)
 |_,_,_=>none
def zK(P:Program)(op:BinOp)(t:TypeId)(x y:RV):Option (PD×Bool):=
 match AF op x y with
 |some r=>some r
 |none=>eqOp P op t x y
def isC:Operand->Bool
 | .const _=>true
 |_=>false
def DA(P:Program)(op:BinOp)(t:TypeId)(c:Bool)(a b:RV):Option (PD×Bool):=
 match P.underlying t,op,a,b with
 |some (.interface _),.eql,.err b,.d (.raw .nilIface)=>some (.bool b,c|| !b)
 |some (.interface _),.neq,.err b,.d (.raw .nilIface)=>some (.bool !b,c|| !b)
 |some (.interface _),.eql,.d (.raw .nilIface),.d (.raw .nilIface)=>some (.bool true,c)
 |some (.interface _),.neq,.d (.raw .nilIface),.d (.raw .nilIface)=>some (.bool false,c)
 |_,_,_,_=>none
def binX(P:Program)(op:BinOp)(t:TypeId)(x y:Operand)(a b:RV):Option (PD×Bool):=
 match zK P op t a b with
 |some r=>some r
 |none=>DA P op t (isC x||isC y) a b
def isPtr:RV->Bool
 | .ptr _ _=>true
 |_=>false
def B4(cs:List RV):Bool:= !cs.isEmpty&&cs.all isPtr
def wg(P:Program)(t:TypeId)(a:RV):M (RV×Ups):=
 match a with
 | .cptr cs=>wC P t cs
 | .pcp c=>(match wy P t with|some (false,_)=>uB c|_=>M.fail)
 | .ptr id off=>M.bind (M.get id) fun
  | .var cs=>wk P t cs off
  |_=>M.fail
 | .elt id ver i o=>M.bind (M.get id) fun
  | .arr f _ es=>
   if ver=f then(match es[i]? with|some e=>wC P t (e.cells.drop o)|none=>M.fail)
   else M.fail
  | .nest f _ _ _ (some (j,rv))=>if ver=f∧i=j∧o=0 then(match wy P t with|some (false,_)=>uB rv|_=>M.fail)else M.fail
  |_=>M.fail
 |_=>M.fail
def setCells(cs:List RV)(off:Nat):List RV->List RV
 | []=>cs
 |v::r=>setCells (cs.set off v) (off+1) r
def wD(cs:List PD)(off:Nat):List PD->List PD
 | []=>cs
 |v::r=>wD (cs.set off v) (off+1) r
def PD.put(e:PD)(o:Nat)(vs:List PD):PD:=
 match e with
 | .agg cs=>.agg (wD cs o vs)
 |e=>vs.headD e
def xr(P:Program)(t:TypeId)(a v:RV):M (RV×Ups):=
 match szT P t with
 |none=>M.fail
 |some n=>
  match a with
  | .ptr id off=>M.bind (M.get id) fun
   | .var cs=>M.tL (v.sized&&decide (v.cells.length=n∧off+n<=cs.length)) (.undef,[(id,.var (setCells cs off v.cells))])
   |_=>M.fail
  | .elt id ver i o=>M.bind (M.get id) fun
   | .arr c e es=>
    if ver=c then
     M.bind (wv v) fun(p,u)=>
     match es[i]? with
     |some x=>if(u.map (·.1)).contains id then M.fail else M.tL (v.sized&&decide (p.cells.length=n∧o+n<=x.cells.length)) (.undef,u++[(id,.arr c e (es.set i (x.put o p.cells)))])
     |none=>M.fail
    else M.fail
   | .nest c e e2 ess h=>if ver=c∧o=0∧n=1 then M.tL (v.one&&decide (i<ess.length)&&(match h with|some (j,_)=>decide (i=j)|none=>true)) (.undef,[(id,.nest c e e2 ess (some (i,v)))])else M.fail
   |_=>M.fail
  |_=>M.fail
def xA(P:Program)(t:TypeId)(f:Nat):Option (Nat×TypeId):=
 match P.underlying t with
 |some (.struct a)=>(match a[f]? with|some x=>some (x.offset,x.type)|none=>none)
 |_=>none
def yZ(off:Nat)(x:RV):M (RV×Ups):=
 match x with
 | .ptr id o=>M.bind (M.get id) fun
  | .var _=>uB (.ptr id (o+off))
  |_=>M.fail
 | .elt id ver i o=>M.bind (M.get id) fun
  | .arr a _ _=>if ver=a then uB (.elt id ver i (o+off))else M.fail
  |_=>M.fail
 | .cptr cs=>uB (.cptr (cs.drop off))
 |_=>M.fail
def vQ(P:Program)(t:TypeId)(x:RV)(f:Nat):M (RV×Ups):=
 match xA P t f with
 |none=>M.fail
 |some (off,a)=>
  match szT P a with
  |some (_+1)=>yZ off x
  |_=>M.fail
def xw:RV->Option (List RV)
 | .agg cs=>some cs
 | .d (.agg cs)=>some (cs.map .d)
 |_=>none
def zk(P:Program)(t:TypeId)(x:RV)(f:Nat):M (RV×Ups):=
 match xA P t f,xw x with
 |some (off,a),some cs=>wk P a cs off
 |_,_=>M.fail
def zn(x i:RV):M (RV×Ups):=
 match x,i with
 | .d (.str s),.d (.int _ n)=>tZ (decide (0<=n∧n<s.length)) (.d (.int .u8 ((s.getD n.toNat 0).toNat:Nat)))
 |_,_=>M.fail
def Ao(P:Program)(len:Nat)(e:TypeId)(x i:RV):M (RV×Ups):=
 match xw x,i,szT P e with
 |some cs,.d (.int _ n),some k=>M.bind (M.tL (decide (0<=n∧n<len)) ()) λ_=>wk P e cs (n.toNat*k)
 |_,_,_=>M.fail
def yu(P:Program)(t:TypeId)(x i:RV):M (RV×Ups):=
 match P.underlying t with
 |some .string=>zn x i
 |some (.array len e)=>Ao P len e x i
 |_=>M.fail
def uG(P:Program)(t:TypeId)(x i:RV):M (RV×Ups):=
 match P.underlying t,i with
 |some (.slice e),.d (.int _ n)=>
  (match szT P e with
   |none=>M.fail
   |some k=>
    match x with
    | .d (.lst es)=>tZ (decide (0<=n∧n<es.length)&&((es.getD n.toNat default).cells.length==k)) (.cptr (es.getD n.toNat default).cells)
    | .plit cs=>tZ (decide (0<=n∧n<cs.length)&&decide (k=1)) (.pcp (cs.getD n.toNat default))
    | .ref id ver=>M.bind (M.get id) fun
     | .arr a c es=>if ver=a∧e=c then tZ (decide (0<=n∧n<es.length)) (.elt id ver n.toNat 0)else M.fail
     | .nest a c _ ess _=>if ver=a∧e=c then tZ (decide (0<=n∧n<ess.length)) (.elt id ver n.toNat 0)else M.fail
     |_=>M.fail
    | .view id ver lo hi=>M.bind (M.get id) fun
     | .arr a c es=>if ver=a∧e=c then tZ (decide (0<=n∧n<(hi:Int)-lo∧hi<=es.length)) (.elt id ver (lo+n.toNat) 0)else M.fail
     |_=>M.fail
    |_=>M.fail)
 |some (.array len e),.d (.int _ n)=>
  (match szT P e with
   |some k=>M.bind (M.tL (decide (0<=n∧n<len)) ()) λ_=>yZ (n.toNat*k) x
   |none=>M.fail)
 |_,_=>M.fail
def bnd(o:Option RV)(a:Int):Option Int:=
 match o with
 |none=>some a
 |some (.d (.int _ n))=>some n
 |_=>none
def cut{α:Type}(l:List α)(lo:Nat)(hi:Option Nat):List α:=
 match hi with
 |none=>l.drop lo
 |some h=>(l.drop lo).take (h-lo)
def hiOf(o:Option RV)(h:Int):Option Nat:=match o with|none=>none|some _=>some h.toNat
def sliceB(P:Program)(e:TypeId)(id ver a b:Nat)(lo hi:Option RV):M (RV×Ups):=
 match bnd lo 0,bnd hi ((b:Int)-a),szT P e with
 |some l,some h,some (_+1)=>M.bind (M.get id) fun
  | .arr c f es=>if ver=c∧e=f then tZ (decide (a<=b∧b<=es.length∧0<=l∧l<=h∧h<=(b:Int)-a)) (.view id ver (a+l.toNat) (a+h.toNat))else M.fail
  |_=>M.fail
 |_,_,_=>M.fail
def AB(P:Program)(a:Nat)(e:TypeId)(n:Nat)(lo hi mx:Option RV):M (RV×Ups):=
 match bnd lo 0,hi,mx,szT P e with
 |some l,some (.d (.int _ h)),some (.d (.int _ m)),some (_+1)=>
  if l=0∧h=0∧m=0 then M.bind (M.uj a) λ_=>M.tL (decide (0<=n)) (.ref a 0,[(a,.arr 0 e [])])else M.fail
 |_,_,_,_=>M.fail
def uP(P:Program)(e:TypeId)(k:Nat):Nat->List PD->List PD
 |0,_=>[]
 |n+1,cs=>(if ue P e then .agg (cs.take k)else cs.headD default)::uP P e k n (cs.drop k)
def zx(P:Program)(id:Nat)(a:TypeId):M (RV×Ups):=
 match P.underlying a with
 |some (.array n e)=>
  (match szT P e with
   |some (k+1)=>M.bind (M.get id) fun
    | .var cs => (match yn cs with
     |some c=>if ue P e=true∨k=0 then M.tL (decide (c.length=n*(k+1))&&c.all PD.one) (.d (.lst (uP P e (k+1) n c)),[(id,.dead)])else M.fail
     |none=>M.fail)
    |_=>M.fail
   |_=>M.fail)
 |_=>M.fail
def zz(P:Program)(a:TypeId)(cs:List PD):M (RV×Ups):=
 match P.underlying a with
 |some (.array n e)=>
  (match szT P e with
   |some (k+1)=>if ue P e=true∨k=0 then M.tL (decide (n*(k+1)<=cs.length)&&(cs.take (n*(k+1))).all PD.one) (.d (.lst (uP P e (k+1) n (cs.take (n*(k+1))))),[])else M.fail
   |_=>M.fail)
 |_=>M.fail
def AS(P:Program)(t:TypeId)(x:RV)(lo hi mx:Option RV):M (RV×Ups):=
 match P.underlying t,x,lo,hi,mx with
 |some (.slice e),.ref id ver,none,some (.d (.int _ h)),none=>
  (match szT P e with
   |some (_+1)=>M.bind (M.get id) fun
    | .arr a c es=>if ver=a∧e=c then M.tL (decide (0<=h∧h<=es.length)) (.ref id (ver+1),[(id,.arr (ver+1) e (es.take h.toNat))])else M.fail
    |_=>M.fail
   |_=>M.fail)
 |_,_,_,_,_=>M.fail
def u6(P:Program)(c:Nat)(t:TypeId)(x:RV)(lo hi mx:Option RV):M (RV×Ups):=
 match P.underlying t,x,mx with
 |some (.slice e),.ref id ver,none=>M.bind (M.get id) fun
  | .arr _ _ es=>sliceB P e id ver 0 es.length lo hi
  |_=>M.fail
 |some (.slice e),.view id ver a b,none=>sliceB P e id ver a b lo hi
 |some (.array _ _),.ptr id 0,none=>(match lo,hi with|none,none=>zx P id t|_,_=>M.fail)
 |some (.array _ _),.cptr cs,none=>(match lo,hi with|none,none=>zz P t cs|_,_=>M.fail)
 | some (.slice e), .tC, none => (match bnd lo 0, hi, szT P e with
  |some l,some (.d (.int _ h)),some _=>if l=0∧h=0 then M.pure (.tC,[])else M.fail
  |_,_,_=>M.fail)
 |some (.slice e),.d (.lst es),some m=>AB P c e es.length lo hi (some m)
 |some .string,.d (.str s),none=>
  (match bnd lo 0, bnd hi s.length with
   |some l,some h=>tZ (decide (0<=l∧l<=h∧h<=s.length)) (.d (.str (cut s l.toNat (hiOf hi h))))
   |_,_=>M.fail)
 |some (.slice e),.d (.lst es),none=>
  (match bnd lo 0, bnd hi es.length, szT P e with
   |some l,some h,some k=>tZ (decide (0<=l∧l<=h∧h<=es.length)&&es.all (λe=>e.cells.length==k)) (.d (.lst (cut es l.toNat (hiOf hi h))))
   |_,_,_=>M.fail)
 |_,_,_=>M.fail
def wx(place:Nat->Option (Nat×Nat))(cs:List RV):List (Nat×RV)->Option (List RV)
 | []=>some cs
 |(i,v)::r=>
  match place i with
  |some (off,k)=>if v.cells.length=k∧off+k<=cs.length then wx place (setCells cs off v.cells) r else none
  |none=>none
def Bx(P:Program)(a:Array Field)(i:Nat):Option (Nat×Nat):=
 match a[i]? with
 |some f=>(match szT P f.type with|some k=>some (f.offset,k)|none=>none)
 |none=>none
def vo(parts:List (Nat×RV)):Bool:=parts.all λx=>x.2.sized
def yp(P:Program)(t:TypeId)(parts:List (Nat×RV)):M (RV×Ups):=
 match P.underlying t,uE P t with
 |some (.struct a),some z=>
  if a.toList.all λf=>(szT P f.type).isSome then
   (match wx (Bx P a) (uh z).cells parts with
    |some cs=>tZ (vo parts) (BT cs)
    |none=>M.fail)
  else M.fail
 |some (.array _ e),some z=>
  (match szT P e with
   | some k => (match wx (λi => some (i * k, k)) (uh z).cells parts with
    |some cs=>tZ (vo parts) (BT cs)
    |none=>M.fail)
   |none=>M.fail)
 |_,_=>M.fail
def vj(P:Program)(mt:Bool)(id:Nat)(t:TypeId)(len:Nat)(parts:List (Nat×RV)):M (RV×Ups):=
 match uA P t with
 |none=>M.fail
 |some e=>
  match szT P e,uE P e with
  |some (k+1),some z=>
   if len*(k+1)<=2 ^ 24∧z.cells.size=k+1∧(ue P e=true∨k=0)then
    (match wx (λi => some (i * (k + 1), k + 1)) (EA len (uh z).cells).flatten parts with
     |some cs=>if(mt&&B4 cs)=true then M.tL (vo parts&&decide (k=0)) (.plit cs,[])else M.bind (zo mt cs) fun(a,u)=>
      if mt&& !AZ cs then M.bind (M.uj id) λ_=>M.tL (vo parts&&a.all PD.one) (.ref id 0,u++[(id,.arr 0 e (uP P e (k+1) len a))])
      else M.tL (vo parts&&a.all PD.one) (.d (.lst (uP P e (k+1) len a)),u)
     |none=>M.fail)
   else M.fail
  |_,_=>M.fail
def zh(P:Program)(id:Nat)(t:TypeId):M (RV×Ups):=
 match uE P t with
 |some z=>M.bind (M.uj id) λ_=>M.pure (.ptr id 0,[(id,.var (uh z).cells)])
 |none=>M.fail
def boxD(id:Nat)(v:RV):M (RV×Ups):=
 M.bind (M.uj id) λ_=>M.tL v.sized (.ptr id 0,[(id,.var v.cells)])
def Ar(P:Program)(t:TypeId)(x:RV):M (RV×Ups):=
 match P.underlying t,x with
 |some .string,.d (.str s)=>uB (.d (.int .i64 s.length))
 |some (.slice _),.d (.lst es)=>uB (.d (.int .i64 es.length))
 |some (.slice _),.plit cs=>uB (.d (.int .i64 cs.length))
 |some (.slice _),.tC=>uB (.d (.int .i64 0))
 |some (.slice _),.ref id ver=>M.bind (M.get id) fun
  | .arr a _ es=>if ver=a then uB (.d (.int .i64 es.length))else M.fail
  | .nest a _ _ ess _=>if ver=a then uB (.d (.int .i64 ess.length))else M.fail
  |_=>M.fail
 |some (.slice _),.view id ver lo hi=>M.bind (M.get id) fun
  | .arr a _ es=>if ver=a then tZ (decide (lo<=hi∧hi<=es.length)) (.d (.int .i64 ((hi:Int)-lo)))else M.fail
  |_=>M.fail
 |_,_=>M.fail
def uF(x:RV):M (List PD):=
 match x with
 | .d (.lst es)=>M.pure es
 | .tC=>M.pure []
 | .ref id ver=>M.bind (M.get id) fun
  | .arr a _ es=>if ver=a then M.pure es else M.fail
  |_=>M.fail
 | .view id ver lo hi=>M.bind (M.get id) fun
  | .arr a _ es=>if ver=a then M.tL (decide (lo<=hi∧hi<=es.length)) ((es.drop lo).take (hi-lo))else M.fail
  |_=>M.fail
 |_=>M.fail
def zR(x:RV):M (Nat×Nat×TypeId×List PD×Nat×Nat):=
 match x with
 | .ref id ver=>M.bind (M.get id) fun
  | .arr a e es=>if ver=a then M.pure (id,ver,e,es,0,es.length)else M.fail
  |_=>M.fail
 | .view id ver lo hi=>M.bind (M.get id) fun
  | .arr a e es=>if ver=a then M.tL (decide (lo<=hi∧hi<=es.length)) (id,ver,e,es,lo,hi-lo)else M.fail
  |_=>M.fail
 |_=>M.fail
def yW(P:Program)(t:TypeId)(x y:RV):M (RV×Ups):=
 match uA P t with
 | some e => (match szT P e with
  |some (k+1)=>M.bind (zR x) λd=>M.bind (uF y) λys=>
   M.tL (decide (e=d.2.2.1)&&ys.all λc=>c.cells.length==k+1)
    (.d (.int .i64 (Nat.min ys.length d.2.2.2.2.2:Nat)),[(d.1,.arr d.2.1 d.2.2.1 (d.2.2.2.1.take d.2.2.2.2.1++ys.take (Nat.min ys.length d.2.2.2.2.2)++d.2.2.2.1.drop (d.2.2.2.2.1+Nat.min ys.length d.2.2.2.2.2)))])
  |_=>M.fail)
 |none=>M.fail
def minL:Int->List RV->Option Int
 |n,[]=>some n
 |n,.d (.int _ m)::r=>minL (if m<n then m else n) r
 |_,_::_=>none
def maxL:Int->List RV->Option Int
 |n,[]=>some n
 |n,.d (.int _ m)::r=>maxL (if m>n then m else n) r
 |_,_::_=>none
def minD:List RV->M (RV×Ups)
 | .d (.int k n)::r=>(match minL n r with|some m=>M.pure (.d (.int k m),[])|none=>M.fail)
 |_=>M.fail
def maxD:List RV->M (RV×Ups)
 | .d (.int k n)::r=>(match maxL n r with|some m=>M.pure (.d (.int k m),[])|none=>M.fail)
 |_=>M.fail
def Ag(v:Value):Option PD:=
 match vO v with
 | .d p=>some p
 | .tC=>some (.lst [])
 |_=>none
def Ah:List Value->Option (List PD)
 | []=>some []
 |v::r=>match Ag v,Ah r with
  |some p,some l=>some (p::l)
  |_,_=>none
def vB:Value->Option PD
 | .agg cs=>(Ah cs.toList).map .agg
 |v=>Ag v
def xn(P:Program)(t:TypeId)(x:RV):M (RV×Ups):=
 match uA P t with
 | some e => (match szT P e, (uE P e).bind vB with
  |some (k+1),some z=>M.bind (zR x) λd=>
   M.tL (decide (e=d.2.2.1)&&(z.cells.length==k+1))
    (.tup [],[(d.1,.arr d.2.1 d.2.2.1 (d.2.2.2.1.take d.2.2.2.2.1++EA d.2.2.2.2.2 z++d.2.2.2.1.drop (d.2.2.2.2.1+d.2.2.2.2.2)))])
  |_,_=>M.fail)
 |none=>M.fail
def uX(P:Program)(id:Nat)(t:TypeId)(l c:RV):M (RV×Ups):=
 match uA P t,l,c with
 |some e,.d (.int _ n),.d (.int _ m)=>
  (match szT P e, uJ P e, (uE P e).bind vB with
   |some (k+1),some b,some z=>M.bind (M.uj id) λ_=>
    M.tL (decide (n<=m∧0<=n∧m.toNat*b<=140737488355328∧m.toNat<=140737488355328)&&(z.cells.length==k+1)) (.ref id 0,[(id,.arr 0 e (EA n.toNat z))])
   |_,_,_=>M.fail)
 |_,_,_=>M.fail
def AE(P:Program)(id:Nat)(t t':TypeId)(s x:RV):M (RV×Ups):=
 match uA P t,P.underlying t',s,x with
 |some e,some (.int _),.tC,.d (.int _ n)=>
  (match szT P e, uJ P e, (uE P e).bind vB with
   |some (k+1),some b,some z=>M.bind (M.uj id) λ_=>
    M.tL (decide (0<n∧n.toNat*b<=140737488355328∧n.toNat<=140737488355328)&&(z.cells.length==k+1)) (.ref id 0,[(id,.arr 0 e (EA n.toNat z))])
   |_,_,_=>M.fail)
 |_,_,_,_=>M.fail
def capD(P:Program)(t:TypeId)(x:RV):M (RV×Ups):=
 match P.underlying t,x with
 |some (.slice _),.tC=>uB (.d (.int .i64 0))
 |_,_=>M.fail
def Cp:PD->PD->Option Bool
 | .int k a,.int k' b=>if k=k' then some (a==b)else none
 | .str a,.str b=>some (a==b)
 | .bool a,.bool b=>some (a==b)
 |_,_=>none
def Cm:PD->Bool
 | .agg _=>true
 |_=>false
def keyEq(P:Program)(c:TypeId)(a b:PD):Option Bool:=
 match Cm a,Cm b with
 |true,true=>eqPD P 20 c a b
 |false,false=>Cp a b
 |_,_=>none
def Cn(P:Program):Nat->TypeId->PD->Bool
 |0,_,_=>false
 |d+1,t,k=>
  match P.underlying t,k with
  |some (.int q),.int c _=>decide (q=c)
  |some .string,.str _=>true
  |some .bool,.bool _=>true
  | some (.struct a), .agg cs => a.toList.all λf => f.name != "_" && (match yF P f.type cs f.offset with | some p => Cn P d f.type p | none => false)
  |_,_=>false
def Co(P:Program)(t:TypeId)(k:PD):Bool:=Cn P 20 t k
def A3:PD->PD->Bool
 | .int k a,.int k' b=>decide (k=k')&&decide (a=b)
 | .str a,.str b=>decide (a=b)
 | .bool a,.bool b=>decide (a=b)
 |_,_=>false
def D5:List PD->List PD->Bool
 | [],[]=>true
 |a::r,b::q=>A3 a b&&D5 r q
 |_,_=>false
def DI:PD->PD->Bool
 | .agg a,.agg b=>D5 a b
 |a,b=>A3 a b
def uV(P:Program)(id:Nat)(t t':TypeId)(s x:RV):M (RV×Ups):=
 match uA P t with
 |none=>M.fail
 |some e=>
  match szT P e,uJ P e,uE P e with
  |some (k+1),some (by_+1),some z=>
   if z.cells.size=k+1∧t=t' then
    M.bind (uF x) λxs=>
    (match s with
     | .tC=>M.bind (M.uj id) λ_=>
      M.tL (decide (xs.length*(by_+1)<=140737488355328)&&xs.all (λe=>e.cells.length==k+1)) (.ref id 0,[(id,.arr 0 e xs)])
     | .ref a ver=>M.bind (M.get a) fun
      | .arr c f es=>
       if ver=c∧e=f then
        M.tL (decide ((es.length+xs.length)*(by_+1)<=140737488355328)&&xs.all (λe=>e.cells.length==k+1)) (.ref a (ver+1),[(a,.arr (ver+1) e (es++xs))])
       else M.fail
      | .nest c f e2 ess none=>
       if ver=c∧e=f∧k=0∧xs.all Bs=true then
        M.tL (decide ((ess.length+xs.length)*(by_+1)<=140737488355328)) (.ref a (ver+1),[(a,.nest (ver+1) e e2 (ess++EA xs.length []) none)])
       else M.fail
      |_=>M.fail
     |_=>M.fail)
   else M.fail
  |_,_,_=>M.fail
end Go.Dw
