
import Derived.Orders
set_option linter.unusedVariables false
set_option linter.unusedSimpArgs false
open List renaming replicate->B2

namespace Go.Dw
theorem za{p:Prop}(h:p:=by omega):p:=h
theorem zc{p:Prop}(h:p:=by simp):p:=h
theorem so{p:Prop}(h:p:=by simp;omega):p:=h
theorem zd{p:Prop}(h:p:=by simp only;omega):p:=h
theorem ze{α β:Type}(a:α)(f:α->Option β):(some a).bind f=f a:=rfl
theorem zf{α:Type}{l:List α}{i:Nat}(h:i<l.length):l[i]? =some l[i]:=List.getElem?_eq_getElem h
inductive PD where
 |bool (b:Bool)
 |int (k:IntKind) (n:Int)
 |str (s:List UInt8)
 |lst (es:List PD)
 |agg (cs:List PD)
 |raw (v:Value)
 deriving Inhabited
inductive RV where
 |d (p:PD)
 |undef
 |junk
 |rm
 |agg (cs:List RV)
 |tup (cs:List RV)
 |ref (id ver:Nat)
 |ptr (id off:Nat)
 |elt (id ver i o:Nat)
 |cptr (cs:List PD)
 |view (id ver lo hi:Nat)
 |clo (f:FuncId) (cs:List RV)
 |fview (id ver hi:Nat)
 |err (ok:Bool)
 |dfull (es:List PD)
 |ifc (t:TypeId) (c:RV)
 |plit (cs:List RV)
 |pcp (c:RV)
 deriving Inhabited
inductive Box where
 |var (cs:List RV)
 |arr (ver:Nat) (e:TypeId) (es:List PD)
 |dead
 |map (kt vt:TypeId) (es:List (PD×PD))
 |nest (ver:Nat) (e e2:TypeId) (ess:List (List PD)) (lent:Option (Nat×RV))
 |hole (ver:Nat) (e:TypeId) (es:List PD) (i o:Nat) (rv:RV)
 deriving Inhabited
abbrev sj:=Nat->Option Box
abbrev Ups:=List (Nat×Box)
def M(α:Type):Type:=sj->Option (α×List Nat×Bool)
namespace M
def pure{α:Type}(a:α):M α:=fun _=>some (a,[],true)
def bind{α β:Type}(m:M α)(f:α->M β):M β:=fun b=>
 match m b with
 |some (a,r,c)=>
  match f a b with
  |some (x,j,g)=>some (x,r++j,c&&g)
  |none=>none
 |none=>none
def fail{α:Type}:M α:=fun _=>none
def get(id:Nat):M Box:=fun b=>match b id with|some x=>some (x,[id],true)|none=>none
def si(id:Nat):M Unit:=fun b=>match b id with|some _=>none|none=>some ((),[id],true)
def rG{α:Type}(c:Bool)(a:α):M α:=fun _=>some (a,[],c)
end M
def PD.cells:PD->List PD
 | .agg cs=>cs
 |p=>[p]
def PD.one:PD->Bool
 | .agg _=>false
 |_=>true
def RV.cells:RV->List RV
 | .agg cs=>cs
 | .d (.agg cs)=>cs.map .d
 |v=>[v]
def RV.one:RV->Bool
 | .d p=>p.one
 | .rm| .ref _ _| .ptr _ _| .elt _ _ _ _| .cptr _| .view _ _ _ _| .clo _ _| .fview _ _ _| .err _| .ifc _ _| .plit _| .pcp _=>true
 |_=>false
def RV.sized(v:RV):Bool:=v.cells.all RV.one
def nil0:PD:= .raw (.slice none 0 0)
def Az:PD->Bool
 | .raw (.slice none 0 0)=>true
 |_=>false
def isNils:RV->Bool
 | .rm=>true
 |_=>false
inductive NC where
 |row (e:TypeId) (es:List PD)
 |val (v:RV)
def ncs(e2:TypeId)(ess:List (List PD)):Option (Nat×RV)->List NC
 |none=>ess.map (.row e2)
 |some (i,rv)=>(ess.map (.row e2)).set i (.val rv)
def w9:List RV->Option (List PD)
 | []=>some []
 | .d p::r=>match w9 r with|some l=>some (p::l)|none=>none
 |_=>none
def A9(cs:List RV):RV:=match w9 cs with|some l=>.d (.agg l)|none=>.agg cs
def yH:RV->M (PD×Ups)
 | .d p=>M.pure (p,[])
 | .rm=>M.pure (.lst [],[])
 | .ref id ver=>M.bind (M.get id) fun
  | .arr f _ es=>if ver=f then M.pure (.lst es,[(id,.dead)])else M.fail
  |_=>M.fail
 | .view id ver lo hi=>M.bind (M.get id) fun
  | .arr f _ es=>if ver=f then M.rG (decide (lo<=hi∧hi<=es.length)) (.lst ((es.drop lo).take (hi-lo)),[(id,.dead)])else M.fail
  |_=>M.fail
 |_=>M.fail
def vU:List RV->M (List PD×Ups)
 | []=>M.pure ([],[])
 |c::r=>M.bind (yH c) fun(p,u)=>M.bind (vU r) fun(ps,us)=>M.pure (p::ps,u++us)
def zN(cs:List RV):Bool:= !cs.isEmpty&&cs.all isNils
def yb(mt:Bool)(cs:List RV):M (List PD×Ups):=if mt&&zN cs then M.pure (cs.map fun _=>nil0,[])else vU cs
def uL(v:RV):M (PD×Ups):=
 match v with
 | .agg cs=>M.bind (vU cs) fun(ps,u)=>M.pure (.agg ps,u)
 |v=>yH v
def sw(P:Program)(t:TypeId):Bool:=
 match P.underlying t with
 |some (.struct _)|some (.array _ _)=>true
 |_=>false
def szT(P:Program)(t:TypeId):Option Nat:=(P.info? t).map (·.size)
def sP(P:Program)(t:TypeId):Option Nat:=(P.info? t).map (·.bytes)
def sr(P:Program)(t:TypeId):Option Value:=(P.info? t).bind (·.zero)
def sD(P:Program)(t:TypeId):Option TypeId:=
 match P.underlying t with
 |some (.slice e)=>some e
 |_=>none
def um:Value->RV
 | .bool b=>.d (.bool b)
 | .int k n=>.d (.int k n)
 | .string s=>.d (.str s.data.toList)
 | .slice none 0 0=>.rm
 | .func (.func f) ⟨[]⟩ ⟨[]⟩=>.d (.raw (.func (.func f) #[] #[]))
 | .nilFunc=>.d (.raw .nilFunc)
 | .nilIface=>.d (.raw .nilIface)
 | .pointer none=>.d (.raw (.pointer none))
 | .map none=>.d (.raw (.map none))
 |_=>.junk
def sn:Value->RV
 | .agg cs=>.agg (cs.toList.map um)
 |v=>um v
def andI(k:IntKind)(x y:Int):Int:=k.wrap (((BitVec.ofInt k.bits x &&& BitVec.ofInt k.bits y).toNat:Nat):Int)
def orI(k:IntKind)(x y:Int):Int:=k.wrap (((BitVec.ofInt k.bits x ||| BitVec.ofInt k.bits y).toNat:Nat):Int)
def xorI(k:IntKind)(x y:Int):Int:=k.wrap (((BitVec.ofInt k.bits x ^^^ BitVec.ofInt k.bits y).toNat:Nat):Int)
def Bj(k:IntKind)(x y:Int):Int:=k.wrap (((BitVec.ofInt k.bits x &&& ~~~ BitVec.ofInt k.bits y).toNat:Nat):Int)
def shlI(k:IntKind)(x y:Int):Int:=k.wrap (x*2 ^ (min y.toNat k.bits))
def sl(k:IntKind)(x y:Int):Int:=x.fdiv (2 ^ (min y.toNat k.bits))
def yU(op:BinOp)(k:IntKind)(x y:Int):Option (PD×Bool):=
 match op with
 | .add=>some (.int k (k.wrap (x+y)),true)
 | .sub=>some (.int k (k.wrap (x-y)),true)
 | .mul=>some (.int k (k.wrap (x*y)),true)
 | .quo=>some (.int k (k.wrap (x.tdiv y)),y != 0)
 | .rem=>some (.int k (x.tmod y),y != 0)
 | .eql=>some (.bool (x==y),true)
 | .neq=>some (.bool (x != y),true)
 | .lss=>some (.bool (decide (x<y)),true)
 | .leq=>some (.bool (decide (x<=y)),true)
 | .gtr=>some (.bool (decide (x>y)),true)
 | .geq=>some (.bool (decide (x>=y)),true)
 | .and=>some (.int k (andI k x y),true)
 | .or=>some (.int k (orI k x y),true)
 | .xor=>some (.int k (xorI k x y),true)
 | .andNot=>some (.int k (Bj k x y),true)
 |_=>none
def BG(op:BinOp)(x y:List UInt8):Option (PD×Bool):=
 match op with
 | .add=>some (.str (x++y),decide (((x.length+y.length:Nat):Int)<=IntKind.i64.max))
 | .eql=>some (.bool (x==y),true)
 | .neq=>some (.bool !(x==y),true)
 | .lss=>some (.bool (Op.bytesLess x y),true)
 | .leq=>some (.bool (Op.bytesLess x y||x==y),true)
 | .gtr=>some (.bool !(Op.bytesLess x y||x==y),true)
 | .geq=>some (.bool !(Op.bytesLess x y),true)
 |_=>none
def yo(op:BinOp)(x y:RV):Option (PD×Bool):=
 match x,y with
 | .d (.int k a),.d (.int k' b)=>(match op with| .shl=>some (.int k (shlI k a b),decide (0<=b))| .shr=>some (.int k (sl k a b),decide (0<=b))|op=>if k=k' then yU op k a b else none)
 | .d (.str a),.d (.str b)=>BG op a b
 |_,_=>none
def wZ(o:Option (PD×Bool)):M (RV×Ups):=match o with|some (p,c)=>M.rG c (.d p,[])|none=>M.fail
def sQ(v:RV):M (RV×Ups):=M.pure (v,[])
def se(c:Bool)(v:RV):M (RV×Ups):=M.rG c (v,[])
def ug(P:Program)(t:TypeId):Option (Bool×Nat):=
 match P.underlying t,szT P t with
 |some _,some n=>some (sw P t,n)
 |_,_=>none
def uG(P:Program)(t:TypeId)(cs:List PD):M (RV×Ups):=
 match ug P t with
 |none=>M.fail
 |some (true,n)=>se (decide (n<=cs.length)) (.d (.agg (cs.take n)))
 |some (false,_)=>match cs with|c::_=>sQ (.d c)| []=>M.fail
def uH(P:Program)(t:TypeId)(cs:List RV)(off:Nat):M (RV×Ups):=
 match ug P t with
 |none=>M.fail
 |some (true,n)=>se (decide (off+n<=cs.length)) (A9 ((cs.drop off).take n))
 |some (false,_)=>match cs[off]? with|some c=>sQ c|none=>M.fail
def wu(P:Program)(t:TypeId)(cs:List PD)(off:Nat):Option PD:=
 match ug P t with
 |some (true,n)=>if off+n<=cs.length then some (.agg ((cs.drop off).take n))else none
 |some (false,_)=>cs[off]?
 |none=>none
def eqFs(P:Program)(rec:TypeId->PD->PD->Option Bool)(xs g:List PD):List Field->Option Bool
 | []=>some true
 |f::r=>
  if f.name = "_" then none else
  match wu P f.type xs f.offset,wu P f.type g f.offset with
  |some a,some b=>(match rec f.type a b,eqFs P rec xs g r with|some p,some q=>some (p&&q)|_,_=>none)
  |_,_=>none
def A5(P:Program)(rec:PD->PD->Option Bool)(e:TypeId)(k:Nat)(xs f:List PD):List Nat->Option Bool
 | []=>some true
 |i::r=>
  match wu P e xs (i*k),wu P e f (i*k)with
  |some a,some b=>(match rec a b,A5 P rec e k xs f r with|some p,some q=>some (p&&q)|_,_=>none)
  |_,_=>none
def An(P:Program):Nat->TypeId->PD->PD->Option Bool
 |0,_,_,_=>none
 |d+1,t,x,y=>
  match P.underlying t,x,y with
  |some .bool,.bool a,.bool b=>some (a==b)
  |some (.int _),.int k a,.int k' b=>if k=k' then some (a==b)else none
  |some .string,.str a,.str b=>some (a==b)
  |some (.struct g),.agg xs,.agg f=>if P.stoodInHeld t then none else eqFs P (An P d) xs f g.toList
  |some (.array n e),.agg xs,.agg f=>(match P.info? e with|some _=>A5 P (An P d e) e (P.cellsOf e) xs f (List.range n)|none=>none)
  |_,_,_=>none
def eqOp(P:Program)(op:BinOp)(t:TypeId)(x y:RV):Option (PD×Bool):=
 match op,x,y with
 | .eql,.d (.bool a),.d (.bool b)=>(match An P 1 t (.bool a) (.bool b)with|some r=>some (.bool r,true)|none=>none)
 | .neq,.d (.bool a),.d (.bool b)=>(match An P 1 t (.bool a) (.bool b)with|some r=>some (.bool !r,true)|none=>none)
 | .eql,.d (.agg a),.d (.agg b)=>if P.eqGuardType P.depth t then none else(match An P 20 t (.agg a) (.agg b)with|some r=>some (.bool r,true)|none=>none)
 | .neq,.d (.agg a),.d (.agg b)=>if P.eqGuardType P.depth t then none else(match An P 20 t (.agg a) (.agg b)with|some r=>some (.bool !r,true)|none=>none)
 | .eql,.d (.lst es),.rm=>(match P.underlying t with|some (.slice _)=>some (.bool false, !es.isEmpty)|_=>none)
 | .neq,.d (.lst es),.rm=>(match P.underlying t with|some (.slice _)=>some (.bool true, !es.isEmpty)|_=>none)
 | .eql,.rm,.rm=>(match P.underlying t with|some (.slice _)=>some (.bool true,true)|_=>none)
 | .neq,.rm,.rm=>(match P.underlying t with|some (.slice _)=>some (.bool false,true)|_=>none)
 |_,_,_=>none
def xV(P:Program)(op:BinOp)(t:TypeId)(x y:RV):Option (PD×Bool):=
 match yo op x y with
 |some r=>some r
 |none=>eqOp P op t x y
def isC:Operand->Bool
 | .const _=>true
 |_=>false
def CM(P:Program)(op:BinOp)(t:TypeId)(c:Bool)(a b:RV):Option (PD×Bool):=
 match P.underlying t,op,a,b with
 |some (.interface _),.eql,.err b,.d (.raw .nilIface)=>some (.bool b,c|| !b)
 |some (.interface _),.neq,.err b,.d (.raw .nilIface)=>some (.bool !b,c|| !b)
 |some (.interface _),.eql,.d (.raw .nilIface),.d (.raw .nilIface)=>some (.bool true,c)
 |some (.interface _),.neq,.d (.raw .nilIface),.d (.raw .nilIface)=>some (.bool false,c)
 |_,_,_,_=>none
def Aa(P:Program)(op:BinOp)(t:TypeId)(x y:Operand)(a b:RV):Option (PD×Bool):=
 match xV P op t a b with
 |some r=>some r
 |none=>CM P op t (isC x||isC y) a b
def isPtr:RV->Bool
 | .ptr _ _=>true
 |_=>false
def Bh(cs:List RV):Bool:= !cs.isEmpty&&cs.all isPtr
def uw(P:Program)(t:TypeId)(a:RV):M (RV×Ups):=
 match a with
 | .cptr cs=>uG P t cs
 | .pcp c=>(match ug P t with|some (false,_)=>sQ c|_=>M.fail)
 | .ptr id off=>M.bind (M.get id) fun
  | .var cs=>uH P t cs off
  |_=>M.fail
 | .elt id ver i o=>M.bind (M.get id) fun
  | .arr f _ es=>
   if ver=f then(match es[i]? with|some e=>uG P t (e.cells.drop o)|none=>M.fail)
   else M.fail
  | .nest f _ _ _ (some (j,rv))=>if ver=f∧i=j∧o=0 then(match ug P t with|some (false,_)=>sQ rv|_=>M.fail)else M.fail
  | .hole f _ _ j q rv=>if ver=f∧i=j∧o=q then(match ug P t with|some (false,_)=>sQ rv|_=>M.fail)else M.fail
  |_=>M.fail
 |_=>M.fail
def setCells(cs:List RV)(off:Nat):List RV->List RV
 | []=>cs
 |v::r=>setCells (cs.set off v) (off+1) r
def uR(cs:List PD)(off:Nat):List PD->List PD
 | []=>cs
 |v::r=>uR (cs.set off v) (off+1) r
def PD.put(e:PD)(o:Nat)(vs:List PD):PD:=
 match e with
 | .agg cs=>.agg (uR cs o vs)
 |e=>vs.headD e
def vL(P:Program)(t:TypeId)(a v:RV):M (RV×Ups):=
 match szT P t with
 |none=>M.fail
 |some n=>
  match a with
  | .ptr id off=>M.bind (M.get id) fun
   | .var cs=>M.rG (v.sized&&decide (v.cells.length=n∧off+n<=cs.length)) (.undef,[(id,.var (setCells cs off v.cells))])
   |_=>M.fail
  | .elt id ver i o=>M.bind (M.get id) fun
   | .arr f e es=>
    if ver=f then
     M.bind (uL v) fun(p,u)=>
     match es[i]? with
     |some x=>if(u.map (·.1)).contains id then M.fail else M.rG (v.sized&&decide (p.cells.length=n∧o+n<=x.cells.length)) (.undef,u++[(id,.arr f e (es.set i (x.put o p.cells)))])
     |none=>M.fail
    else M.fail
   | .nest f e e2 ess h=>if ver=f∧o=0∧n=1 then M.rG (v.one&&decide (i<ess.length)&&(match h with|some (j,_)=>decide (i=j)|none=>true)) (.undef,[(id,.nest f e e2 ess (some (i,v)))])else M.fail
   | .hole f e es j q _=>if ver=f∧i=j∧o=q∧n=1 then M.rG v.one (.undef,[(id,.hole f e es j q v)])else M.fail
   |_=>M.fail
  |_=>M.fail
def wm(P:Program)(t:TypeId)(f:Nat):Option (Nat×TypeId):=
 match P.underlying t with
 |some (.struct g)=>(match g[f]? with|some x=>some (x.offset,x.type)|none=>none)
 |_=>none
def xR(off:Nat)(x:RV):M (RV×Ups):=
 match x with
 | .ptr id o=>M.bind (M.get id) fun
  | .var _=>sQ (.ptr id (o+off))
  |_=>M.fail
 | .elt id ver i o=>M.bind (M.get id) fun
  | .arr f _ _=>if ver=f then sQ (.elt id ver i (o+off))else M.fail
  | .hole f _ _ _ _ _=>if ver=f then sQ (.elt id ver i (o+off))else M.fail
  |_=>M.fail
 | .cptr cs=>sQ (.cptr (cs.drop off))
 |_=>M.fail
def uu(P:Program)(t:TypeId)(x:RV)(f:Nat):M (RV×Ups):=
 match wm P t f with
 |none=>M.fail
 |some (off,g)=>
  match szT P g with
  |some (_+1)=>xR off x
  |_=>M.fail
def wg:RV->Option (List RV)
 | .agg cs=>some cs
 | .d (.agg cs)=>some (cs.map .d)
 |_=>none
def xX(P:Program)(t:TypeId)(x:RV)(f:Nat):M (RV×Ups):=
 match wm P t f,wg x with
 |some (off,g),some cs=>uH P g cs off
 |_,_=>M.fail
def xZ(x i:RV):M (RV×Ups):=
 match x,i with
 | .d (.str s),.d (.int _ n)=>se (decide (0<=n∧n<s.length)) (.d (.int .u8 ((s.getD n.toNat 0).toNat:Nat)))
 |_,_=>M.fail
def yS(P:Program)(len:Nat)(e:TypeId)(x i:RV):M (RV×Ups):=
 match wg x,i,szT P e with
 |some cs,.d (.int _ n),some k=>M.bind (M.rG (decide (0<=n∧n<len)) ()) fun _=>uH P e cs (n.toNat*k)
 |_,_,_=>M.fail
def xi(P:Program)(t:TypeId)(x i:RV):M (RV×Ups):=
 match P.underlying t with
 |some .string=>xZ x i
 |some (.array len e)=>yS P len e x i
 |_=>M.fail
def tc(P:Program)(t:TypeId)(x i:RV):M (RV×Ups):=
 match P.underlying t,i with
 |some (.slice e),.d (.int _ n)=>
  (match szT P e with
   |none=>M.fail
   |some k=>
    match x with
    | .d (.lst es)=>se (decide (0<=n∧n<es.length)&&((es.getD n.toNat default).cells.length==k)) (.cptr (es.getD n.toNat default).cells)
    | .plit cs=>se (decide (0<=n∧n<cs.length)&&decide (k=1)) (.pcp (cs.getD n.toNat default))
    | .ref id ver=>M.bind (M.get id) fun
     | .arr f g es=>if ver=f∧e=g then se (decide (0<=n∧n<es.length)) (.elt id ver n.toNat 0)else M.fail
     | .nest f g _ ess _=>if ver=f∧e=g then se (decide (0<=n∧n<ess.length)) (.elt id ver n.toNat 0)else M.fail
     | .hole f g es _ _ _=>if ver=f∧e=g then se (decide (0<=n∧n<es.length)) (.elt id ver n.toNat 0)else M.fail
     |_=>M.fail
    | .view id ver lo hi=>M.bind (M.get id) fun
     | .arr f g es=>if ver=f∧e=g then se (decide (0<=n∧n<(hi:Int)-lo∧hi<=es.length)) (.elt id ver (lo+n.toNat) 0)else M.fail
     |_=>M.fail
    |_=>M.fail)
 |some (.array len e),.d (.int _ n)=>
  (match szT P e with
   |some k=>M.bind (M.rG (decide (0<=n∧n<len)) ()) fun _=>xR (n.toNat*k) x
   |none=>M.fail)
 |_,_=>M.fail
def bnd(o:Option RV)(f:Int):Option Int:=
 match o with
 |none=>some f
 |some (.d (.int _ n))=>some n
 |_=>none
def cut{α:Type}(l:List α)(lo:Nat)(hi:Option Nat):List α:=
 match hi with
 |none=>l.drop lo
 |some h=>(l.drop lo).take (h-lo)
def hiOf(o:Option RV)(h:Int):Option Nat:=match o with|none=>none|some _=>some h.toNat
def sliceB(P:Program)(e:TypeId)(id ver a b:Nat)(lo hi:Option RV):M (RV×Ups):=
 match bnd lo 0,bnd hi ((b:Int)-a),szT P e with
 |some l,some h,some (_+1)=>M.bind (M.get id) fun
  | .arr f g es=>if ver=f∧e=g then se (decide (a<=b∧b<=es.length∧0<=l∧l<=h∧h<=(b:Int)-a)) (.view id ver (a+l.toNat) (a+h.toNat))else M.fail
  |_=>M.fail
 |_,_,_=>M.fail
def zj(P:Program)(f:Nat)(e:TypeId)(n:Nat)(lo hi g:Option RV):M (RV×Ups):=
 match bnd lo 0,hi,g,szT P e with
 |some l,some (.d (.int _ h)),some (.d (.int _ m)),some (_+1)=>
  if l=0∧h=0∧m=0 then M.bind (M.si f) fun _=>M.rG (decide (0<=n)) (.ref f 0,[(f,.arr 0 e [])])else M.fail
 |_,_,_,_=>M.fail
def tz(P:Program)(e:TypeId)(k:Nat):Nat->List PD->List PD
 |0,_=>[]
 |n+1,cs=>(if sw P e then .agg (cs.take k)else cs.headD default)::tz P e k n (cs.drop k)
def yh(P:Program)(id:Nat)(a:TypeId):M (RV×Ups):=
 match P.underlying a with
 |some (.array n e)=>
  (match szT P e with
   |some (k+1)=>M.bind (M.get id) fun
    | .var cs => (match w9 cs with
     |some ps=>if sw P e=true∨k=0 then M.rG (decide (ps.length=n*(k+1))&&ps.all PD.one) (.d (.lst (tz P e (k+1) n ps)),[(id,.dead)])else M.fail
     |none=>M.fail)
    |_=>M.fail
   |_=>M.fail)
 |_=>M.fail
def yj(P:Program)(e:TypeId)(id ver:Nat)(lo hi:Option RV)(j:RV):M (RV×Ups):=
 match lo,hi,j,szT P e with
 |none,some (.d (.int _ h)),.d (.int _ m),some (_+1)=>
  if h=m then M.bind (M.get id) fun
   | .arr f g es=>if ver=f∧e=g then M.rG (decide (0<=h∧h<=es.length)) (.fview id ver h.toNat,[])else M.fail
   |_=>M.fail
  else M.fail
 |_,_,_,_=>M.fail
def yi(P:Program)(a:TypeId)(cs:List PD):M (RV×Ups):=
 match P.underlying a with
 |some (.array n e)=>
  (match szT P e with
   |some (k+1)=>if sw P e=true∨k=0 then M.rG (decide (n*(k+1)<=cs.length)&&(cs.take (n*(k+1))).all PD.one) (.d (.lst (tz P e (k+1) n (cs.take (n*(k+1))))),[])else M.fail
   |_=>M.fail)
 |_=>M.fail
def Au(P:Program)(e:TypeId)(es:List PD)(h m:Int):M (RV×Ups):=
 match szT P e with
 |some (_+1)=>if h=m then M.rG (decide (h=es.length)) (.dfull es,[])else M.fail
 |_=>M.fail
def zF(P:Program)(t:TypeId)(x:RV)(lo hi j:Option RV):M (RV×Ups):=
 match P.underlying t,x,lo,hi,j with
 |some (.slice e),.ref id ver,none,some (.d (.int _ h)),none=>
  (match szT P e with
   |some (_+1)=>M.bind (M.get id) fun
    | .arr f g es=>if ver=f∧e=g then M.rG (decide (0<=h∧h<=es.length)) (.ref id (ver+1),[(id,.arr (ver+1) e (es.take h.toNat))])else M.fail
    |_=>M.fail
   |_=>M.fail)
 |some (.slice e),.d (.lst es),none,some (.d (.int _ h)),some (.d (.int _ m))=>Au P e es h m
 |_,_,_,_,_=>M.fail
def tC(P:Program)(f:Nat)(t:TypeId)(x:RV)(lo hi g:Option RV):M (RV×Ups):=
 match P.underlying t,x,g with
 |some (.slice e),.ref id ver,none=>M.bind (M.get id) fun
  | .arr _ _ es=>sliceB P e id ver 0 es.length lo hi
  |_=>M.fail
 |some (.slice e),.view id ver a b,none=>sliceB P e id ver a b lo hi
 |some (.array _ _),.ptr id 0,none=>(match lo,hi with|none,none=>yh P id t|_,_=>M.fail)
 |some (.array _ _),.cptr cs,none=>(match lo,hi with|none,none=>yi P t cs|_,_=>M.fail)
 | some (.slice e), .rm, none => (match bnd lo 0, hi, szT P e with
  |some l,some (.d (.int _ h)),some _=>if l=0∧h=0 then M.pure (.rm,[])else M.fail
  |_,_,_=>M.fail)
 |some (.slice e),.d (.lst es),some m=>zj P f e es.length lo hi (some m)
 |some (.slice e),.ref id ver,some m=>yj P e id ver lo hi m
 |some .string,.d (.str s),none=>
  (match bnd lo 0, bnd hi s.length with
   |some l,some h=>se (decide (0<=l∧l<=h∧h<=s.length)) (.d (.str (cut s l.toNat (hiOf hi h))))
   |_,_=>M.fail)
 |some (.slice e),.d (.lst es),none=>
  (match bnd lo 0, bnd hi es.length, szT P e with
   |some l,some h,some k=>se (decide (0<=l∧l<=h∧h<=es.length)&&es.all (fun e=>e.cells.length==k)) (.d (.lst (cut es l.toNat (hiOf hi h))))
   |_,_,_=>M.fail)
 |_,_,_=>M.fail
def uN(place:Nat->Option (Nat×Nat))(cs:List RV):List (Nat×RV)->Option (List RV)
 | []=>some cs
 |(i,v)::r=>
  match place i with
  |some (off,k)=>if v.cells.length=k∧off+k<=cs.length then uN place (setCells cs off v.cells) r else none
  |none=>none
def AK(P:Program)(g:Array Field)(i:Nat):Option (Nat×Nat):=
 match g[i]? with
 |some f=>(match szT P f.type with|some k=>some (f.offset,k)|none=>none)
 |none=>none
def tU(parts:List (Nat×RV)):Bool:=parts.all fun x=>x.2.sized
def xc(P:Program)(t:TypeId)(parts:List (Nat×RV)):M (RV×Ups):=
 match P.underlying t,sr P t with
 |some (.struct g),some z=>
  if g.toList.all fun f=>(szT P f.type).isSome then
   (match uN (AK P g) (sn z).cells parts with
    |some cs=>se (tU parts) (A9 cs)
    |none=>M.fail)
  else M.fail
 |some (.array _ e),some z=>
  (match szT P e with
   | some k => (match uN (fun i => some (i * k, k)) (sn z).cells parts with
    |some cs=>se (tU parts) (A9 cs)
    |none=>M.fail)
   |none=>M.fail)
 |_,_=>M.fail
def tR(P:Program)(mt:Bool)(id:Nat)(t:TypeId)(len:Nat)(parts:List (Nat×RV)):M (RV×Ups):=
 match sD P t with
 |none=>M.fail
 |some e=>
  match szT P e,sr P e with
  |some (k+1),some z=>
   if len*(k+1)<=2 ^ 24∧z.cells.size=k+1∧(sw P e=true∨k=0)then
    (match uN (fun i => some (i * (k + 1), k + 1)) (B2 len (sn z).cells).flatten parts with
     |some cs=>if(mt&&Bh cs)=true then M.rG (tU parts&&decide (k=0)) (.plit cs,[])else M.bind (yb mt cs) fun(ps,u)=>
      if mt&& !zN cs then M.bind (M.si id) fun _=>M.rG (tU parts&&ps.all PD.one) (.ref id 0,u++[(id,.arr 0 e (tz P e (k+1) len ps))])
      else M.rG (tU parts&&ps.all PD.one) (.d (.lst (tz P e (k+1) len ps)),u)
     |none=>M.fail)
   else M.fail
  |_,_=>M.fail
def xU(P:Program)(id:Nat)(t:TypeId):M (RV×Ups):=
 match sr P t with
 |some z=>M.bind (M.si id) fun _=>M.pure (.ptr id 0,[(id,.var (sn z).cells)])
 |none=>M.fail
def boxD(id:Nat)(v:RV):M (RV×Ups):=
 M.bind (M.si id) fun _=>M.rG v.sized (.ptr id 0,[(id,.var v.cells)])
def yW(P:Program)(t:TypeId)(x:RV):M (RV×Ups):=
 match P.underlying t,x with
 |some .string,.d (.str s)=>sQ (.d (.int .i64 s.length))
 |some (.slice _),.d (.lst es)=>sQ (.d (.int .i64 es.length))
 |some (.slice _),.plit cs=>sQ (.d (.int .i64 cs.length))
 |some (.slice _),.rm=>sQ (.d (.int .i64 0))
 |some (.slice _),.ref id ver=>M.bind (M.get id) fun
  | .arr f _ es=>if ver=f then sQ (.d (.int .i64 es.length))else M.fail
  | .nest f _ _ ess _=>if ver=f then sQ (.d (.int .i64 ess.length))else M.fail
  | .hole f _ es _ _ _=>if ver=f then sQ (.d (.int .i64 es.length))else M.fail
  |_=>M.fail
 |some (.slice _),.view id ver lo hi=>M.bind (M.get id) fun
  | .arr f _ es=>if ver=f then se (decide (lo<=hi∧hi<=es.length)) (.d (.int .i64 ((hi:Int)-lo)))else M.fail
  |_=>M.fail
 |some (.map _ _),.ptr id 0=>M.bind (M.get id) fun
  | .map _ _ es=>sQ (.d (.int .i64 es.length))
  |_=>M.fail
 |_,_=>M.fail
def sq(x:RV):M (List PD):=
 match x with
 | .d (.lst es)=>M.pure es
 | .rm=>M.pure []
 | .ref id ver=>M.bind (M.get id) fun
  | .arr f _ es=>if ver=f then M.pure es else M.fail
  |_=>M.fail
 | .view id ver lo hi=>M.bind (M.get id) fun
  | .arr f _ es=>if ver=f then M.rG (decide (lo<=hi∧hi<=es.length)) ((es.drop lo).take (hi-lo))else M.fail
  |_=>M.fail
 |_=>M.fail
def yw(x:RV):M (Nat×Nat×TypeId×List PD×Nat×Nat):=
 match x with
 | .ref id ver=>M.bind (M.get id) fun
  | .arr f e es=>if ver=f then M.pure (id,ver,e,es,0,es.length)else M.fail
  |_=>M.fail
 | .view id ver lo hi=>M.bind (M.get id) fun
  | .arr f e es=>if ver=f then M.rG (decide (lo<=hi∧hi<=es.length)) (id,ver,e,es,lo,hi-lo)else M.fail
  |_=>M.fail
 |_=>M.fail
def xO(P:Program)(t:TypeId)(x y:RV):M (RV×Ups):=
 match sD P t with
 | some e => (match szT P e with
  |some (k+1)=>M.bind (yw x) fun d=>M.bind (sq y) fun f=>
   M.rG (decide (e=d.2.2.1)&&f.all fun c=>c.cells.length==k+1)
    (.d (.int .i64 (Nat.min f.length d.2.2.2.2.2:Nat)),[(d.1,.arr d.2.1 d.2.2.1 (d.2.2.2.1.take d.2.2.2.2.1++f.take (Nat.min f.length d.2.2.2.2.2)++d.2.2.2.1.drop (d.2.2.2.2.1+Nat.min f.length d.2.2.2.2.2)))])
  |_=>M.fail)
 |none=>M.fail
def minL:Int->List RV->Option Int
 |n,[]=>some n
 |n,.d (.int _ m)::r=>minL (if m<n then m else n) r
 |_,_::_=>none
def maxL:Int->List RV->Option Int
 |n,[]=>some n
 |n,.d (.int _ m)::r=>maxL (if m>n then m else n) r
 |_,_::_=>none
def minD:List RV->M (RV×Ups)
 | .d (.int k n)::r=>(match minL n r with|some m=>M.pure (.d (.int k m),[])|none=>M.fail)
 |_=>M.fail
def maxD:List RV->M (RV×Ups)
 | .d (.int k n)::r=>(match maxL n r with|some m=>M.pure (.d (.int k m),[])|none=>M.fail)
 |_=>M.fail
def yM(v:Value):Option PD:=
 match um v with
 | .d p=>some p
 | .rm=>some (.lst [])
 |_=>none
def xK:List Value->Option (List PD)
 | []=>some []
 |v::r=>match yM v,xK r with
  |some p,some l=>some (p::l)
  |_,_=>none
def tq:Value->Option PD
 | .agg cs=>(xK cs.toList).map .agg
 |v=>yM v
def vY(P:Program)(t:TypeId)(x:RV):M (RV×Ups):=
 match sD P t with
 | some e => (match szT P e, (sr P e).bind tq with
  |some (k+1),some z=>M.bind (yw x) fun d=>
   M.rG (decide (e=d.2.2.1)&&(z.cells.length==k+1))
    (.tup [],[(d.1,.arr d.2.1 d.2.2.1 (d.2.2.2.1.take d.2.2.2.2.1++B2 d.2.2.2.2.2 z++d.2.2.2.1.drop (d.2.2.2.2.1+d.2.2.2.2.2)))])
  |_,_=>M.fail)
 |none=>M.fail
def tH(P:Program)(id:Nat)(t:TypeId)(l c:RV):M (RV×Ups):=
 match sD P t,l,c with
 |some e,.d (.int _ n),.d (.int _ m)=>
  (match szT P e, sP P e, (sr P e).bind tq with
   |some (k+1),some b,some z=>M.bind (M.si id) fun _=>
    M.rG (decide (n<=m∧0<=n∧m.toNat*b<=140737488355328∧m.toNat<=140737488355328)&&(z.cells.length==k+1)) (.ref id 0,[(id,.arr 0 e (B2 n.toNat z))])
   |_,_,_=>M.fail)
 |_,_,_=>M.fail
def zp(P:Program)(id:Nat)(t t':TypeId)(s x:RV):M (RV×Ups):=
 match sD P t,P.underlying t',s,x with
 |some e,some (.int _),.rm,.d (.int _ n)=>
  (match szT P e, sP P e, (sr P e).bind tq with
   |some (k+1),some b,some z=>M.bind (M.si id) fun _=>
    M.rG (decide (0<n∧n.toNat*b<=140737488355328∧n.toNat<=140737488355328)&&(z.cells.length==k+1)) (.ref id 0,[(id,.arr 0 e (B2 n.toNat z))])
   |_,_,_=>M.fail)
 |_,_,_,_=>M.fail
def capD(P:Program)(t:TypeId)(x:RV):M (RV×Ups):=
 match P.underlying t,x with
 |some (.slice _),.rm=>sQ (.d (.int .i64 0))
 |_,_=>M.fail
def vQ:PD->PD->Option Bool
 | .int k a,.int k' b=>if k=k' then some (a==b)else none
 | .str a,.str b=>some (a==b)
 | .bool a,.bool b=>some (a==b)
 |_,_=>none
def vZ:PD->Bool
 | .agg _=>true
 |_=>false
def AA(P:Program)(f:TypeId)(a b:PD):Option Bool:=
 match vZ a,vZ b with
 |true,true=>An P 20 f a b
 |false,false=>vQ a b
 |_,_=>none
def tw(P:Program)(f:TypeId)(k:PD):List (PD×PD)->Nat->Option (Option (Nat×PD×PD))
 | [],_=>some none
 |(x,v)::r,i=>
  match AA P f k x with
  |some true=>some (some (i,x,v))
  |some false=>tw P f k r (i+1)
  |none=>none
def vI(P:Program):Nat->TypeId->PD->Bool
 |0,_,_=>false
 |d+1,t,k=>
  match P.underlying t,k with
  |some (.int q),.int q' _=>decide (q=q')
  |some .string,.str _=>true
  |some .bool,.bool _=>true
  | some (.struct g), .agg cs => g.toList.all fun f => f.name != "_" && (match wu P f.type cs f.offset with | some p => vI P d f.type p | none => false)
  |_,_=>false
def uF(P:Program)(t:TypeId)(k:PD):Bool:=vI P 20 t k
def wP:PD->PD->Bool
 | .int k a,.int k' b=>decide (k=k')&&decide (a=b)
 | .str a,.str b=>decide (a=b)
 | .bool a,.bool b=>decide (a=b)
 |_,_=>false
def wQ:List PD->List PD->Bool
 | [],[]=>true
 |a::r,b::q=>wP a b&&wQ r q
 |_,_=>false
def xx:PD->PD->Bool
 | .agg a,.agg b=>wQ a b
 |a,b=>wP a b
def vJ(P:Program)(id:Nat)(t:TypeId):M (RV×Ups):=
 match P.underlying t with
 |some (.map f g)=>M.bind (M.si id) fun _=>M.pure (.ptr id 0,[(id,.map f g [])])
 |_=>M.fail
def vr(P:Program)(t:TypeId)(x k:RV)(ok:Bool):M (RV×Ups):=
 match P.underlying t,x,k with
 |some (.map f r),.ptr id 0,.d q=>M.bind (M.get id) fun
  | .map g j es=>
   if f=g∧r=j∧uF P f q=true then
    (match tw P f q es 0, (sr P r).bind tq with
     |some (some (_,_,v)),_=>if ok then sQ (.tup [.d v,.d (.bool true)])else sQ (.d v)
     |some none,some z=>if ok then sQ (.tup [.d z,.d (.bool false)])else sQ (.d z)
     |_,_=>M.fail)
   else M.fail
  |_=>M.fail
 |_,_,_=>M.fail
def vu(P:Program)(t:TypeId)(x k v:RV):M (RV×Ups):=
 match P.underlying t,x,k with
 |some (.map g q),.ptr id 0,.d f=>M.bind (M.get id) fun
  | .map j r es=>
   if g=j∧q=r∧uF P g f=true then
    M.bind (uL v) fun(p,u)=>
    match tw P g f es 0 with
    |some (some (i,x,_))=>if(u.map (·.1)).contains id then M.fail else M.rG (xx f x) (.undef,u++[(id,.map g q (es.set i (f,p)))])
    |some none=>if(u.map (·.1)).contains id then M.fail else M.pure (.undef,u++[(id,.map g q (es++[(f,p)]))])
    |none=>M.fail
   else M.fail
  |_=>M.fail
 |_,_,_=>M.fail
def te(P:Program)(id:Nat)(t t':TypeId)(s x:RV):M (RV×Ups):=
 match sD P t with
 |none=>M.fail
 |some e=>
  match szT P e,sP P e,sr P e with
  |some (k+1),some (by_+1),some z=>
   if z.cells.size=k+1∧t=t' then
    M.bind (sq x) fun xs=>
    (match s with
     | .rm=>M.bind (M.si id) fun _=>
      M.rG (decide (xs.length*(by_+1)<=140737488355328)&&xs.all (fun e=>e.cells.length==k+1)) (.ref id 0,[(id,.arr 0 e xs)])
     | .ref f ver=>M.bind (M.get f) fun
      | .arr g j es=>
       if ver=g∧e=j then
        M.rG (decide ((es.length+xs.length)*(by_+1)<=140737488355328)&&xs.all (fun e=>e.cells.length==k+1)) (.ref f (ver+1),[(f,.arr (ver+1) e (es++xs))])
       else M.fail
      | .nest g j e2 ess none=>
       if ver=g∧e=j∧k=0∧xs.all Az=true then
        M.rG (decide ((ess.length+xs.length)*(by_+1)<=140737488355328)) (.ref f (ver+1),[(f,.nest (ver+1) e e2 (ess++B2 xs.length []) none)])
       else M.fail
      |_=>M.fail
     | .fview f ver hi=>M.bind (M.get f) fun
      | .arr g j es=>
       if ver=g∧e=j then
        M.rG (decide (hi<=es.length∧(hi+xs.length)*(by_+1)<=140737488355328)&&xs.all (fun e=>e.cells.length==k+1)) (.d (.lst (es.take hi++xs)),[(f,.dead)])
       else M.fail
      |_=>M.fail
     | .dfull es=>M.rG (decide ((es.length+xs.length)*(by_+1)<=140737488355328)&&(xs.all (fun e=>e.cells.length==k+1)&&es.all (fun e=>e.cells.length==k+1))) (.d (.lst (es++xs)),[])
     |_=>M.fail)
   else M.fail
  |_,_,_=>M.fail
end Go.Dw
