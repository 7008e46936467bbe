
import Derived.Orders
set_option linter.unusedVariables false
set_option linter.unusedSimpArgs false
open List renaming replicate->B5

namespace Go.Dw
theorem za{p:Prop}(h:p:=by omega):p:=h
theorem sm{p:Prop}(h:p:=by simp):p:=h
theorem so{p:Prop}(h:p:=by simp;omega):p:=h
theorem zb{p:Prop}(h:p:=by simp only;omega):p:=h
theorem zc{α β:Type}(a:α)(f:α->Option β):(some a).bind f=f a:=rfl
theorem zd{α:Type}{l:List α}{i:Nat}(h:i<l.length):l[i]? =some l[i]:=List.getElem?_eq_getElem h
inductive PD where
  |bool (b:Bool)
  |int (k:IntKind) (n:Int)
  |str (s:List UInt8)
  |lst (es:List PD)
  |agg (cs:List PD)
  |raw (v:Value)
  deriving Inhabited
inductive RV where
  |d (p:PD)
  |undef
  |junk
  |px
  |agg (cs:List RV)
  |tup (cs:List RV)
  |ref (id ver:Nat)
  |ptr (id off:Nat)
  |elt (id ver i o:Nat)
  |cptr (cs:List PD)
  |view (id ver lo hi:Nat)
  |clo (f:FuncId) (cs:List RV)
  |fview (id ver hi:Nat)
  |err (ok:Bool)
  |dfull (es:List PD)
  |ifc (t:TypeId) (c:RV)
  |plit (cs:List RV)
  |pcp (c:RV)
  deriving Inhabited
inductive Box where
  |var (cs:List RV)
  |arr (ver:Nat) (e:TypeId) (es:List PD)
  |dead
  |map (kt vt:TypeId) (es:List (PD×PD))
  |nest (ver:Nat) (e e2:TypeId) (ess:List (List PD)) (lent:Option (Nat×RV))
  |hole (ver:Nat) (e:TypeId) (es:List PD) (i o:Nat) (rv:RV)
  deriving Inhabited
abbrev pP:=Nat->Option Box
abbrev Ups:=List (Nat×Box)
def M(α:Type):Type:=pP->Option (α×List Nat×Bool)
namespace M
def pure{α:Type}(a:α):M α:=fun _=>some (a,[],true)
def bind{α β:Type}(m:M α)(f:α->M β):M β:=fun b=>
  match m b with
  |some (a,r,c)=>
    match f a b with
    |some (x,j,g)=>some (x,r++j,c&&g)
    |none=>none
  |none=>none
def fail{α:Type}:M α:=fun _=>none
def get(id:Nat):M Box:=fun b=>match b id with|some x=>some (x,[id],true)|none=>none
def pS(id:Nat):M Unit:=fun b=>match b id with|some _=>none|none=>some ((),[id],true)
def py{α:Type}(c:Bool)(a:α):M α:=fun _=>some (a,[],c)
end M
def PD.cells:PD->List PD
  | .agg cs=>cs
  |p=>[p]
def PD.one:PD->Bool
  | .agg _=>false
  |_=>true
def RV.cells:RV->List RV
  | .agg cs=>cs
  | .d (.agg cs)=>cs.map .d
  |v=>[v]
def RV.one:RV->Bool
  | .d p=>p.one
  | .px| .ref _ _| .ptr _ _| .elt _ _ _ _| .cptr _| .view _ _ _ _| .clo _ _| .fview _ _ _| .err _| .ifc _ _| .plit _| .pcp _=>true
  |_=>false
def RV.sized(v:RV):Bool:=v.cells.all RV.one
def nil0:PD:= .raw (.slice none 0 0)
def zK:PD->Bool
  | .raw (.slice none 0 0)=>true
  |_=>false
def isNils:RV->Bool
  | .px=>true
  |_=>false
inductive NC where
  |row (e:TypeId) (es:List PD)
  |val (v:RV)
def ncs(e2:TypeId)(ess:List (List PD)):Option (Nat×RV)->List NC
  |none=>ess.map (.row e2)
  |some (i,rv)=>(ess.map (.row e2)).set i (.val rv)
def u9:List RV->Option (List PD)
  | []=>some []
  | .d p::r=>match u9 r with|some l=>some (p::l)|none=>none
  |_=>none
def zg(cs:List RV):RV:=match u9 cs with|some l=>.d (.agg l)|none=>.agg cs
def vZ:RV->M (PD×Ups)
  | .d p=>M.pure (p,[])
  | .px=>M.pure (.lst [],[])
  | .ref id ver=>M.bind (M.get id) fun
    | .arr a _ es=>if ver=a then M.pure (.lst es,[(id,.dead)])else M.fail
    |_=>M.fail
  | .view id ver lo hi=>M.bind (M.get id) fun
    | .arr a _ es=>if ver=a then M.py (decide (lo<=hi∧hi<=es.length)) (.lst ((es.drop lo).take (hi-lo)),[(id,.dead)])else M.fail
    |_=>M.fail
  |_=>M.fail
def tP:List RV->M (List PD×Ups)
  | []=>M.pure ([],[])
  |c::r=>M.bind (vZ c) fun(p,u)=>M.bind (tP r) fun(a,us)=>M.pure (p::a,u++us)
def xJ(cs:List RV):Bool:= !cs.isEmpty&&cs.all isNils
def wh(mt:Bool)(cs:List RV):M (List PD×Ups):=if mt&&xJ cs then M.pure (cs.map fun _=>nil0,[])else tP cs
def rQ(v:RV):M (PD×Ups):=
  match v with
  | .agg cs=>M.bind (tP cs) fun(a,u)=>M.pure (.agg a,u)
  |v=>vZ v
def pW(P:Program)(t:TypeId):Bool:=
  match P.underlying t with
  |some (.struct _)|some (.array _ _)=>true
  |_=>false
def szT(P:Program)(t:TypeId):Option Nat:=(P.info? t).map (·.size)
def qd(P:Program)(t:TypeId):Option Nat:=(P.info? t).map (·.bytes)
def pZ(P:Program)(t:TypeId):Option Value:=(P.info? t).bind (·.zero)
def qc(P:Program)(t:TypeId):Option TypeId:=
  match P.underlying t with
  |some (.slice e)=>some e
  |_=>none
def rE:Value->RV
  | .bool b=>.d (.bool b)
  | .int k n=>.d (.int k n)
  | .string s=>.d (.str s.data.toList)
  | .slice none 0 0=>.px
  | .func (.func f) ⟨[]⟩ ⟨[]⟩=>.d (.raw (.func (.func f) #[] #[]))
  | .nilFunc=>.d (.raw .nilFunc)
  | .nilIface=>.d (.raw .nilIface)
  | .pointer none=>.d (.raw (.pointer none))
  | .map none=>.d (.raw (.map none))
  |_=>.junk
def pX:Value->RV
  | .agg cs=>.agg (cs.toList.map rE)
  |v=>rE v
def andI(k:IntKind)(x y:Int):Int:=k.wrap (((BitVec.ofInt k.bits x &&& BitVec.ofInt k.bits y).toNat:Nat):Int)
def orI(k:IntKind)(x y:Int):Int:=k.wrap (((BitVec.ofInt k.bits x ||| BitVec.ofInt k.bits y).toNat:Nat):Int)
def xorI(k:IntKind)(x y:Int):Int:=k.wrap (((BitVec.ofInt k.bits x ^^^ BitVec.ofInt k.bits y).toNat:Nat):Int)
def zo(k:IntKind)(x y:Int):Int:=k.wrap (((BitVec.ofInt k.bits x &&& ~~~ BitVec.ofInt k.bits y).toNat:Nat):Int)
def uq(k:IntKind)(x y:Int):Int:=k.wrap (x*2 ^ (min y.toNat k.bits))
def pJ(k:IntKind)(x y:Int):Int:=x.fdiv (2 ^ (min y.toNat k.bits))
def w8(op:BinOp)(k:IntKind)(x y:Int):Option (PD×Bool):=
  match op with
  | .add=>some (.int k (k.wrap (x+y)),true)
  | .sub=>some (.int k (k.wrap (x-y)),true)
  | .mul=>some (.int k (k.wrap (x*y)),true)
  | .quo=>some (.int k (k.wrap (x.tdiv y)),y != 0)
  | .rem=>some (.int k (x.tmod y),y != 0)
  | .eql=>some (.bool (x==y),true)
  | .neq=>some (.bool (x != y),true)
  | .lss=>some (.bool (decide (x<y)),true)
  | .leq=>some (.bool (decide (x<=y)),true)
  | .gtr=>some (.bool (decide (x>y)),true)
  | .geq=>some (.bool (decide (x>=y)),true)
  | .and=>some (.int k (andI k x y),true)
  | .or=>some (.int k (orI k x y),true)
  | .xor=>some (.int k (xorI k x y),true)
  | .andNot=>some (.int k (zo k x y),true)
  |_=>none
def zV(op:BinOp)(x y:List UInt8):Option (PD×Bool):=
  match op with
  | .add=>some (.str (x++y),decide (((x.length+y.length:Nat):Int)<=IntKind.i64.max))
  | .eql=>some (.bool (x==y),true)
  | .neq=>some (.bool !(x==y),true)
  | .lss=>some (.bool (Op.bytesLess x y),true)
  | .leq=>some (.bool (Op.bytesLess x y||x==y),true)
  | .gtr=>some (.bool !(Op.bytesLess x y||x==y),true)
  | .geq=>some (.bool !(Op.bytesLess x y),true)
  |_=>none
def wC(op:BinOp)(x y:RV):Option (PD×Bool):=
  match x,y with
  | .d (.int k a),.d (.int k' b)=>(match op with| .shl=>some (.int k (uq k a b),decide (0<=b))| .shr=>some (.int k (pJ k a b),decide (0<=b))|op=>if k=k' then w8 op k a b else none)
  | .d (.str a),.d (.str b)=>zV op a b
  |_,_=>none
def uU(o:Option (PD×Bool)):M (RV×Ups):=match o with|some (p,c)=>M.py c (.d p,[])|none=>M.fail
def qe(v:RV):M (RV×Ups):=M.pure (v,[])
def pT(c:Bool)(v:RV):M (RV×Ups):=M.py c (v,[])
def rY(P:Program)(t:TypeId):Option (Bool×Nat):=
  match P.underlying t,szT P t with
  |some _,some n=>some (pW P t,n)
  |_,_=>none
def sa(P:Program)(t:TypeId)(cs:List PD):M (RV×Ups):=
  match rY P t with
  |none=>M.fail
  |some (true,n)=>pT (decide (n<=cs.length)) (.d (.agg (cs.take n)))
  |some (false,_)=>match cs with|c::_=>qe (.d c)| []=>M.fail
def sd(P:Program)(t:TypeId)(cs:List RV)(off:Nat):M (RV×Ups):=
  match rY P t with
  |none=>M.fail
  |some (true,n)=>pT (decide (off+n<=cs.length)) (zg ((cs.drop off).take n))
  |some (false,_)=>match cs[off]? with|some c=>qe c|none=>M.fail
def um(P:Program)(t:TypeId)(cs:List PD)(off:Nat):Option PD:=
  match rY P t with
  |some (true,n)=>if off+n<=cs.length then some (.agg ((cs.drop off).take n))else none
  |some (false,_)=>cs[off]?
  |none=>none
def eqFs(P:Program)(rec:TypeId->PD->PD->Option Bool)(xs ys:List PD):List Field->Option Bool
  | []=>some true
  |f::r=>
    if f.name = "_" then none else
    match um P f.type xs f.offset,um P f.type ys f.offset with
    |some a,some b=>(match rec f.type a b,eqFs P rec xs ys r with|some p,some q=>some (p&&q)|_,_=>none)
    |_,_=>none
def yX(P:Program)(rec:PD->PD->Option Bool)(e:TypeId)(k:Nat)(xs ys:List PD):List Nat->Option Bool
  | []=>some true
  |i::r=>
    match um P e xs (i*k),um P e ys (i*k)with
    |some a,some b=>(match rec a b,yX P rec e k xs ys r with|some p,some q=>some (p&&q)|_,_=>none)
    |_,_=>none
def yi(P:Program):Nat->TypeId->PD->PD->Option Bool
  |0,_,_,_=>none
  |d+1,t,x,y=>
    match P.underlying t,x,y with
    |some .bool,.bool a,.bool b=>some (a==b)
    |some (.int _),.int k a,.int k' b=>if k=k' then some (a==b)else none
    |some .string,.str a,.str b=>some (a==b)
    |some (.struct c),.agg xs,.agg ys=>if P.stoodInHeld t then none else eqFs P (yi P d) xs ys c.toList
    |some (.array n e),.agg xs,.agg ys=>(match P.info? e with|some _=>yX P (yi P d e) e (P.cellsOf e) xs ys (List.range n)|none=>none)
    |_,_,_=>none
def eqOp(P:Program)(op:BinOp)(t:TypeId)(x y:RV):Option (PD×Bool):=
  match op,x,y with
  | .eql,.d (.bool a),.d (.bool b)=>(match yi P 1 t (.bool a) (.bool b)with|some r=>some (.bool r,true)|none=>none)
  | .neq,.d (.bool a),.d (.bool b)=>(match yi P 1 t (.bool a) (.bool b)with|some r=>some (.bool !r,true)|none=>none)
  | .eql,.d (.agg a),.d (.agg b)=>if P.eqGuardType P.depth t then none else(match yi P 20 t (.agg a) (.agg b)with|some r=>some (.bool r,true)|none=>none)
  | .neq,.d (.agg a),.d (.agg b)=>if P.eqGuardType P.depth t then none else(match yi P 20 t (.agg a) (.agg b)with|some r=>some (.bool !r,true)|none=>none)
  | .eql,.d (.lst es),.px=>(match P.underlying t with|some (.slice _)=>some (.bool false, !es.isEmpty)|_=>none)
  | .neq,.d (.lst es),.px=>(match P.underlying t with|some (.slice _)=>some (.bool true, !es.isEmpty)|_=>none)
  | .eql,.px,.px=>(match P.underlying t with|some (.slice _)=>some (.bool true,true)|_=>none)
  | .neq,.px,.px=>(match P.underlying t with|some (.slice _)=>some (.bool false,true)|_=>none)
  |_,_,_=>none
def vd(P:Program)(op:BinOp)(t:TypeId)(x y:RV):Option (PD×Bool):=
  match wC op x y with
  |some r=>some r
  |none=>eqOp P op t x y
def isC:Operand->Bool
  | .const _=>true
  |_=>false
def A8(P:Program)(op:BinOp)(t:TypeId)(c:Bool)(a b:RV):Option (PD×Bool):=
  match P.underlying t,op,a,b with
  |some (.interface _),.eql,.err b,.d (.raw .nilIface)=>some (.bool b,c|| !b)
  |some (.interface _),.neq,.err b,.d (.raw .nilIface)=>some (.bool !b,c|| !b)
  |some (.interface _),.eql,.d (.raw .nilIface),.d (.raw .nilIface)=>some (.bool true,c)
  |some (.interface _),.neq,.d (.raw .nilIface),.d (.raw .nilIface)=>some (.bool false,c)
  |_,_,_,_=>none
def xV(P:Program)(op:BinOp)(t:TypeId)(x y:Operand)(a b:RV):Option (PD×Bool):=
  match vd P op t a b with
  |some r=>some r
  |none=>A8 P op t (isC x||isC y) a b
def isPtr:RV->Bool
  | .ptr _ _=>true
  |_=>false
def zm(cs:List RV):Bool:= !cs.isEmpty&&cs.all isPtr
def si(P:Program)(t:TypeId)(a:RV):M (RV×Ups):=
  match a with
  | .cptr cs=>sa P t cs
  | .pcp c=>(match rY P t with|some (false,_)=>qe c|_=>M.fail)
  | .ptr id off=>M.bind (M.get id) fun
    | .var cs=>sd P t cs off
    |_=>M.fail
  | .elt id ver i o=>M.bind (M.get id) fun
    | .arr f _ es=>
      if ver=f then(match es[i]? with|some e=>sa P t (e.cells.drop o)|none=>M.fail)
      else M.fail
    | .nest f _ _ _ (some (j,rv))=>if ver=f∧i=j∧o=0 then(match rY P t with|some (false,_)=>qe rv|_=>M.fail)else M.fail
    | .hole f _ _ j q rv=>if ver=f∧i=j∧o=q then(match rY P t with|some (false,_)=>qe rv|_=>M.fail)else M.fail
    |_=>M.fail
  |_=>M.fail
def setCells(cs:List RV)(off:Nat):List RV->List RV
  | []=>cs
  |v::r=>setCells (cs.set off v) (off+1) r
def sk(cs:List PD)(off:Nat):List PD->List PD
  | []=>cs
  |v::r=>sk (cs.set off v) (off+1) r
def PD.put(e:PD)(o:Nat)(vs:List PD):PD:=
  match e with
  | .agg cs=>.agg (sk cs o vs)
  |e=>vs.headD e
def uO(P:Program)(t:TypeId)(a v:RV):M (RV×Ups):=
  match szT P t with
  |none=>M.fail
  |some n=>
    match a with
    | .ptr id off=>M.bind (M.get id) fun
      | .var cs=>M.py (v.sized&&decide (v.cells.length=n∧off+n<=cs.length)) (.undef,[(id,.var (setCells cs off v.cells))])
      |_=>M.fail
    | .elt id ver i o=>M.bind (M.get id) fun
      | .arr c e es=>
        if ver=c then
          M.bind (rQ v) fun(p,u)=>
          match es[i]? with
          |some x=>if(u.map (·.1)).contains id then M.fail else M.py (v.sized&&decide (p.cells.length=n∧o+n<=x.cells.length)) (.undef,u++[(id,.arr c e (es.set i (x.put o p.cells)))])
          |none=>M.fail
        else M.fail
      | .nest c e e2 ess h=>if ver=c∧o=0∧n=1 then M.py (v.one&&decide (i<ess.length)&&(match h with|some (j,_)=>decide (i=j)|none=>true)) (.undef,[(id,.nest c e e2 ess (some (i,v)))])else M.fail
      | .hole c e es j q _=>if ver=c∧i=j∧o=q∧n=1 then M.py v.one (.undef,[(id,.hole c e es j q v)])else M.fail
      |_=>M.fail
    |_=>M.fail
def uh(P:Program)(t:TypeId)(f:Nat):Option (Nat×TypeId):=
  match P.underlying t with
  |some (.struct a)=>(match a[f]? with|some x=>some (x.offset,x.type)|none=>none)
  |_=>none
def vY(off:Nat)(x:RV):M (RV×Ups):=
  match x with
  | .ptr id o=>M.bind (M.get id) fun
    | .var _=>qe (.ptr id (o+off))
    |_=>M.fail
  | .elt id ver i o=>M.bind (M.get id) fun
    | .arr a _ _=>if ver=a then qe (.elt id ver i (o+off))else M.fail
    | .hole a _ _ _ _ _=>if ver=a then qe (.elt id ver i (o+off))else M.fail
    |_=>M.fail
  | .cptr cs=>qe (.cptr (cs.drop off))
  |_=>M.fail
def rG(P:Program)(t:TypeId)(x:RV)(f:Nat):M (RV×Ups):=
  match uh P t f with
  |none=>M.fail
  |some (off,a)=>
    match szT P a with
    |some (_+1)=>vY off x
    |_=>M.fail
def ub:RV->Option (List RV)
  | .agg cs=>some cs
  | .d (.agg cs)=>some (cs.map .d)
  |_=>none
def wb(P:Program)(t:TypeId)(x:RV)(f:Nat):M (RV×Ups):=
  match uh P t f,ub x with
  |some (off,a),some cs=>sd P a cs off
  |_,_=>M.fail
def we(x i:RV):M (RV×Ups):=
  match x,i with
  | .d (.str s),.d (.int _ n)=>pT (decide (0<=n∧n<s.length)) (.d (.int .u8 ((s.getD n.toNat 0).toNat:Nat)))
  |_,_=>M.fail
def w6(P:Program)(len:Nat)(e:TypeId)(x i:RV):M (RV×Ups):=
  match ub x,i,szT P e with
  |some cs,.d (.int _ n),some k=>M.bind (M.py (decide (0<=n∧n<len)) ()) fun _=>sd P e cs (n.toNat*k)
  |_,_,_=>M.fail
def vp(P:Program)(t:TypeId)(x i:RV):M (RV×Ups):=
  match P.underlying t with
  |some .string=>we x i
  |some (.array len e)=>w6 P len e x i
  |_=>M.fail
def qw(P:Program)(t:TypeId)(x i:RV):M (RV×Ups):=
  match P.underlying t,i with
  |some (.slice e),.d (.int _ n)=>
    (match szT P e with
     |none=>M.fail
     |some k=>
       match x with
       | .d (.lst es)=>pT (decide (0<=n∧n<es.length)&&((es.getD n.toNat default).cells.length==k)) (.cptr (es.getD n.toNat default).cells)
       | .plit cs=>pT (decide (0<=n∧n<cs.length)&&decide (k=1)) (.pcp (cs.getD n.toNat default))
       | .ref id ver=>M.bind (M.get id) fun
         | .arr a c es=>if ver=a∧e=c then pT (decide (0<=n∧n<es.length)) (.elt id ver n.toNat 0)else M.fail
         | .nest a c _ ess _=>if ver=a∧e=c then pT (decide (0<=n∧n<ess.length)) (.elt id ver n.toNat 0)else M.fail
         | .hole a c es _ _ _=>if ver=a∧e=c then pT (decide (0<=n∧n<es.length)) (.elt id ver n.toNat 0)else M.fail
         |_=>M.fail
       | .view id ver lo hi=>M.bind (M.get id) fun
         | .arr a c es=>if ver=a∧e=c then pT (decide (0<=n∧n<(hi:Int)-lo∧hi<=es.length)) (.elt id ver (lo+n.toNat) 0)else M.fail
         |_=>M.fail
       |_=>M.fail)
  |some (.array len e),.d (.int _ n)=>
    (match szT P e with
     |some k=>M.bind (M.py (decide (0<=n∧n<len)) ()) fun _=>vY (n.toNat*k) x
     |none=>M.fail)
  |_,_=>M.fail
def bnd(o:Option RV)(a:Int):Option Int:=
  match o with
  |none=>some a
  |some (.d (.int _ n))=>some n
  |_=>none
def cut{α:Type}(l:List α)(lo:Nat)(hi:Option Nat):List α:=
  match hi with
  |none=>l.drop lo
  |some h=>(l.drop lo).take (h-lo)
def hiOf(o:Option RV)(h:Int):Option Nat:=match o with|none=>none|some _=>some h.toNat
def sliceB(P:Program)(e:TypeId)(id ver a b:Nat)(lo hi:Option RV):M (RV×Ups):=
  match bnd lo 0,bnd hi ((b:Int)-a),szT P e with
  |some l,some h,some (_+1)=>M.bind (M.get id) fun
    | .arr c f es=>if ver=c∧e=f then pT (decide (a<=b∧b<=es.length∧0<=l∧l<=h∧h<=(b:Int)-a)) (.view id ver (a+l.toNat) (a+h.toNat))else M.fail
    |_=>M.fail
  |_,_,_=>M.fail
def xg(P:Program)(a:Nat)(e:TypeId)(n:Nat)(lo hi mx:Option RV):M (RV×Ups):=
  match bnd lo 0,hi,mx,szT P e with
  |some l,some (.d (.int _ h)),some (.d (.int _ m)),some (_+1)=>
    if l=0∧h=0∧m=0 then M.bind (M.pS a) fun _=>M.py (decide (0<=n)) (.ref a 0,[(a,.arr 0 e [])])else M.fail
  |_,_,_,_=>M.fail
def qx(P:Program)(e:TypeId)(k:Nat):Nat->List PD->List PD
  |0,_=>[]
  |n+1,cs=>(if pW P e then .agg (cs.take k)else cs.headD default)::qx P e k n (cs.drop k)
def wq(P:Program)(id:Nat)(a:TypeId):M (RV×Ups):=
  match P.underlying a with
  |some (.array n e)=>
    (match szT P e with
     |some (k+1)=>M.bind (M.get id) fun
       | .var cs => (match u9 cs with
         |some c=>if pW P e=true∨k=0 then M.py (decide (c.length=n*(k+1))&&c.all PD.one) (.d (.lst (qx P e (k+1) n c)),[(id,.dead)])else M.fail
         |none=>M.fail)
       |_=>M.fail
     |_=>M.fail)
  |_=>M.fail
def wv(P:Program)(e:TypeId)(id ver:Nat)(lo hi:Option RV)(mx:RV):M (RV×Ups):=
  match lo,hi,mx,szT P e with
  |none,some (.d (.int _ h)),.d (.int _ m),some (_+1)=>
    if h=m then M.bind (M.get id) fun
      | .arr a c es=>if ver=a∧e=c then M.py (decide (0<=h∧h<=es.length)) (.fview id ver h.toNat,[])else M.fail
      |_=>M.fail
    else M.fail
  |_,_,_,_=>M.fail
def wu(P:Program)(a:TypeId)(cs:List PD):M (RV×Ups):=
  match P.underlying a with
  |some (.array n e)=>
    (match szT P e with
     |some (k+1)=>if pW P e=true∨k=0 then M.py (decide (n*(k+1)<=cs.length)&&(cs.take (n*(k+1))).all PD.one) (.d (.lst (qx P e (k+1) n (cs.take (n*(k+1))))),[])else M.fail
     |_=>M.fail)
  |_=>M.fail
def yn(P:Program)(e:TypeId)(es:List PD)(h m:Int):M (RV×Ups):=
  match szT P e with
  |some (_+1)=>if h=m then M.py (decide (h=es.length)) (.dfull es,[])else M.fail
  |_=>M.fail
def xC(P:Program)(t:TypeId)(x:RV)(lo hi mx:Option RV):M (RV×Ups):=
  match P.underlying t,x,lo,hi,mx with
  |some (.slice e),.ref id ver,none,some (.d (.int _ h)),none=>
    (match szT P e with
     |some (_+1)=>M.bind (M.get id) fun
       | .arr a c es=>if ver=a∧e=c then M.py (decide (0<=h∧h<=es.length)) (.ref id (ver+1),[(id,.arr (ver+1) e (es.take h.toNat))])else M.fail
       |_=>M.fail
     |_=>M.fail)
  |some (.slice e),.d (.lst es),none,some (.d (.int _ h)),some (.d (.int _ m))=>yn P e es h m
  |_,_,_,_,_=>M.fail
def qF(P:Program)(c:Nat)(t:TypeId)(x:RV)(lo hi mx:Option RV):M (RV×Ups):=
  match P.underlying t,x,mx with
  |some (.slice e),.ref id ver,none=>M.bind (M.get id) fun
    | .arr _ _ es=>sliceB P e id ver 0 es.length lo hi
    |_=>M.fail
  |some (.slice e),.view id ver a b,none=>sliceB P e id ver a b lo hi
  |some (.array _ _),.ptr id 0,none=>(match lo,hi with|none,none=>wq P id t|_,_=>M.fail)
  |some (.array _ _),.cptr cs,none=>(match lo,hi with|none,none=>wu P t cs|_,_=>M.fail)
  | some (.slice e), .px, none => (match bnd lo 0, hi, szT P e with
    |some l,some (.d (.int _ h)),some _=>if l=0∧h=0 then M.pure (.px,[])else M.fail
    |_,_,_=>M.fail)
  |some (.slice e),.d (.lst es),some m=>xg P c e es.length lo hi (some m)
  |some (.slice e),.ref id ver,some m=>wv P e id ver lo hi m
  |some .string,.d (.str s),none=>
    (match bnd lo 0, bnd hi s.length with
     |some l,some h=>pT (decide (0<=l∧l<=h∧h<=s.length)) (.d (.str (cut s l.toNat (hiOf hi h))))
     |_,_=>M.fail)
  |some (.slice e),.d (.lst es),none=>
    (match bnd lo 0, bnd hi es.length, szT P e with
     |some l,some h,some k=>pT (decide (0<=l∧l<=h∧h<=es.length)&&es.all (fun e=>e.cells.length==k)) (.d (.lst (cut es l.toNat (hiOf hi h))))
     |_,_,_=>M.fail)
  |_,_,_=>M.fail
def sh(place:Nat->Option (Nat×Nat))(cs:List RV):List (Nat×RV)->Option (List RV)
  | []=>some cs
  |(i,v)::r=>
    match place i with
    |some (off,k)=>if v.cells.length=k∧off+k<=cs.length then sh place (setCells cs off v.cells) r else none
    |none=>none
def yB(P:Program)(a:Array Field)(i:Nat):Option (Nat×Nat):=
  match a[i]? with
  |some f=>(match szT P f.type with|some k=>some (f.offset,k)|none=>none)
  |none=>none
def rb(parts:List (Nat×RV)):Bool:=parts.all fun x=>x.2.sized
def vg(P:Program)(t:TypeId)(parts:List (Nat×RV)):M (RV×Ups):=
  match P.underlying t,pZ P t with
  |some (.struct a),some z=>
    if a.toList.all fun f=>(szT P f.type).isSome then
      (match sh (yB P a) (pX z).cells parts with
       |some cs=>pT (rb parts) (zg cs)
       |none=>M.fail)
    else M.fail
  |some (.array _ e),some z=>
    (match szT P e with
     | some k => (match sh (fun i => some (i * k, k)) (pX z).cells parts with
       |some cs=>pT (rb parts) (zg cs)
       |none=>M.fail)
     |none=>M.fail)
  |_,_=>M.fail
def q8(P:Program)(mt:Bool)(id:Nat)(t:TypeId)(len:Nat)(parts:List (Nat×RV)):M (RV×Ups):=
  match qc P t with
  |none=>M.fail
  |some e=>
    match szT P e,pZ P e with
    |some (k+1),some z=>
      if len*(k+1)<=2 ^ 24∧z.cells.size=k+1∧(pW P e=true∨k=0)then
        (match sh (fun i => some (i * (k + 1), k + 1)) (B5 len (pX z).cells).flatten parts with
         |some cs=>if(mt&&zm cs)=true then M.py (rb parts&&decide (k=0)) (.plit cs,[])else M.bind (wh mt cs) fun(a,u)=>
           if mt&& !xJ cs then M.bind (M.pS id) fun _=>M.py (rb parts&&a.all PD.one) (.ref id 0,u++[(id,.arr 0 e (qx P e (k+1) len a))])
           else M.py (rb parts&&a.all PD.one) (.d (.lst (qx P e (k+1) len a)),u)
         |none=>M.fail)
      else M.fail
    |_,_=>M.fail
def v8(P:Program)(id:Nat)(t:TypeId):M (RV×Ups):=
  match pZ P t with
  |some z=>M.bind (M.pS id) fun _=>M.pure (.ptr id 0,[(id,.var (pX z).cells)])
  |none=>M.fail
def boxD(id:Nat)(v:RV):M (RV×Ups):=
  M.bind (M.pS id) fun _=>M.py v.sized (.ptr id 0,[(id,.var v.cells)])
def yq(P:Program)(t:TypeId)(x:RV):M (RV×Ups):=
  match P.underlying t,x with
  |some .string,.d (.str s)=>qe (.d (.int .i64 s.length))
  |some (.slice _),.d (.lst es)=>qe (.d (.int .i64 es.length))
  |some (.slice _),.plit cs=>qe (.d (.int .i64 cs.length))
  |some (.slice _),.px=>qe (.d (.int .i64 0))
  |some (.slice _),.ref id ver=>M.bind (M.get id) fun
    | .arr a _ es=>if ver=a then qe (.d (.int .i64 es.length))else M.fail
    | .nest a _ _ ess _=>if ver=a then qe (.d (.int .i64 ess.length))else M.fail
    | .hole a _ es _ _ _=>if ver=a then qe (.d (.int .i64 es.length))else M.fail
    |_=>M.fail
  |some (.slice _),.view id ver lo hi=>M.bind (M.get id) fun
    | .arr a _ es=>if ver=a then pT (decide (lo<=hi∧hi<=es.length)) (.d (.int .i64 ((hi:Int)-lo)))else M.fail
    |_=>M.fail
  |some (.map _ _),.ptr id 0=>M.bind (M.get id) fun
    | .map _ _ es=>qe (.d (.int .i64 es.length))
    |_=>M.fail
  |_,_=>M.fail
def p7(x:RV):M (List PD):=
  match x with
  | .d (.lst es)=>M.pure es
  | .px=>M.pure []
  | .ref id ver=>M.bind (M.get id) fun
    | .arr a _ es=>if ver=a then M.pure es else M.fail
    |_=>M.fail
  | .view id ver lo hi=>M.bind (M.get id) fun
    | .arr a _ es=>if ver=a then M.py (decide (lo<=hi∧hi<=es.length)) ((es.drop lo).take (hi-lo))else M.fail
    |_=>M.fail
  |_=>M.fail
def wI(x:RV):M (Nat×Nat×TypeId×List PD×Nat×Nat):=
  match x with
  | .ref id ver=>M.bind (M.get id) fun
    | .arr a e es=>if ver=a then M.pure (id,ver,e,es,0,es.length)else M.fail
    |_=>M.fail
  | .view id ver lo hi=>M.bind (M.get id) fun
    | .arr a e es=>if ver=a then M.py (decide (lo<=hi∧hi<=es.length)) (id,ver,e,es,lo,hi-lo)else M.fail
    |_=>M.fail
  |_=>M.fail
def vV(P:Program)(t:TypeId)(x y:RV):M (RV×Ups):=
  match qc P t with
  | some e => (match szT P e with
    |some (k+1)=>M.bind (wI x) fun d=>M.bind (p7 y) fun ys=>
      M.py (decide (e=d.2.2.1)&&ys.all fun c=>c.cells.length==k+1)
        (.d (.int .i64 (Nat.min ys.length d.2.2.2.2.2:Nat)),[(d.1,.arr d.2.1 d.2.2.1 (d.2.2.2.1.take d.2.2.2.2.1++ys.take (Nat.min ys.length d.2.2.2.2.2)++d.2.2.2.1.drop (d.2.2.2.2.1+Nat.min ys.length d.2.2.2.2.2)))])
    |_=>M.fail)
  |none=>M.fail
def minL:Int->List RV->Option Int
  |n,[]=>some n
  |n,.d (.int _ m)::r=>minL (if m<n then m else n) r
  |_,_::_=>none
def maxL:Int->List RV->Option Int
  |n,[]=>some n
  |n,.d (.int _ m)::r=>maxL (if m>n then m else n) r
  |_,_::_=>none
def minD:List RV->M (RV×Ups)
  | .d (.int k n)::r=>(match minL n r with|some m=>M.pure (.d (.int k m),[])|none=>M.fail)
  |_=>M.fail
def maxD:List RV->M (RV×Ups)
  | .d (.int k n)::r=>(match maxL n r with|some m=>M.pure (.d (.int k m),[])|none=>M.fail)
  |_=>M.fail
def wX(v:Value):Option PD:=
  match rE v with
  | .d p=>some p
  | .px=>some (.lst [])
  |_=>none
def vT:List Value->Option (List PD)
  | []=>some []
  |v::r=>match wX v,vT r with
    |some p,some l=>some (p::l)
    |_,_=>none
def qt:Value->Option PD
  | .agg cs=>(vT cs.toList).map .agg
  |v=>wX v
def tU(P:Program)(t:TypeId)(x:RV):M (RV×Ups):=
  match qc P t with
  | some e => (match szT P e, (pZ P e).bind qt with
    |some (k+1),some z=>M.bind (wI x) fun d=>
      M.py (decide (e=d.2.2.1)&&(z.cells.length==k+1))
        (.tup [],[(d.1,.arr d.2.1 d.2.2.1 (d.2.2.2.1.take d.2.2.2.2.1++B5 d.2.2.2.2.2 z++d.2.2.2.1.drop (d.2.2.2.2.1+d.2.2.2.2.2)))])
    |_,_=>M.fail)
  |none=>M.fail
def qL(P:Program)(id:Nat)(t:TypeId)(l c:RV):M (RV×Ups):=
  match qc P t,l,c with
  |some e,.d (.int _ n),.d (.int _ m)=>
    (match szT P e, qd P e, (pZ P e).bind qt with
     |some (k+1),some b,some z=>M.bind (M.pS id) fun _=>
       M.py (decide (n<=m∧0<=n∧m.toNat*b<=140737488355328∧m.toNat<=140737488355328)&&(z.cells.length==k+1)) (.ref id 0,[(id,.arr 0 e (B5 n.toNat z))])
     |_,_,_=>M.fail)
  |_,_,_=>M.fail
def xm(P:Program)(id:Nat)(t t':TypeId)(s x:RV):M (RV×Ups):=
  match qc P t,P.underlying t',s,x with
  |some e,some (.int _),.px,.d (.int _ n)=>
    (match szT P e, qd P e, (pZ P e).bind qt with
     |some (k+1),some b,some z=>M.bind (M.pS id) fun _=>
       M.py (decide (0<n∧n.toNat*b<=140737488355328∧n.toNat<=140737488355328)&&(z.cells.length==k+1)) (.ref id 0,[(id,.arr 0 e (B5 n.toNat z))])
     |_,_,_=>M.fail)
  |_,_,_,_=>M.fail
def capD(P:Program)(t:TypeId)(x:RV):M (RV×Ups):=
  match P.underlying t,x with
  |some (.slice _),.px=>qe (.d (.int .i64 0))
  |_,_=>M.fail
def tL:PD->PD->Option Bool
  | .int k a,.int k' b=>if k=k' then some (a==b)else none
  | .str a,.str b=>some (a==b)
  | .bool a,.bool b=>some (a==b)
  |_,_=>none
def tV:PD->Bool
  | .agg _=>true
  |_=>false
def yp(P:Program)(c:TypeId)(a b:PD):Option Bool:=
  match tV a,tV b with
  |true,true=>yi P 20 c a b
  |false,false=>tL a b
  |_,_=>none
def qv(P:Program)(a:TypeId)(k:PD):List (PD×PD)->Nat->Option (Option (Nat×PD×PD))
  | [],_=>some none
  |(x,v)::r,i=>
    match yp P a k x with
    |some true=>some (some (i,x,v))
    |some false=>qv P a k r (i+1)
    |none=>none
def tC(P:Program):Nat->TypeId->PD->Bool
  |0,_,_=>false
  |d+1,t,k=>
    match P.underlying t,k with
    |some (.int q),.int c _=>decide (q=c)
    |some .string,.str _=>true
    |some .bool,.bool _=>true
    | some (.struct a), .agg cs => a.toList.all fun f => f.name != "_" && (match um P f.type cs f.offset with | some p => tC P d f.type p | none => false)
    |_,_=>false
def rX(P:Program)(t:TypeId)(k:PD):Bool:=tC P 20 t k
def vO:PD->PD->Bool
  | .int k a,.int k' b=>decide (k=k')&&decide (a=b)
  | .str a,.str b=>decide (a=b)
  | .bool a,.bool b=>decide (a=b)
  |_,_=>false
def vQ:List PD->List PD->Bool
  | [],[]=>true
  |a::r,b::q=>vO a b&&vQ r q
  |_,_=>false
def xd:PD->PD->Bool
  | .agg a,.agg b=>vQ a b
  |a,b=>vO a b
def tD(P:Program)(id:Nat)(t:TypeId):M (RV×Ups):=
  match P.underlying t with
  |some (.map a c)=>M.bind (M.pS id) fun _=>M.pure (.ptr id 0,[(id,.map a c [])])
  |_=>M.fail
def te(P:Program)(t:TypeId)(x k:RV)(ok:Bool):M (RV×Ups):=
  match P.underlying t,x,k with
  |some (.map a j),.ptr id 0,.d g=>M.bind (M.get id) fun
    | .map c f es=>
      if a=c∧j=f∧rX P a g=true then
        (match qv P a g es 0, (pZ P j).bind qt with
         |some (some (_,_,v)),_=>if ok then qe (.tup [.d v,.d (.bool true)])else qe (.d v)
         |some none,some z=>if ok then qe (.tup [.d z,.d (.bool false)])else qe (.d z)
         |_,_=>M.fail)
      else M.fail
    |_=>M.fail
  |_,_,_=>M.fail
def uI(P:Program)(t:TypeId)(x k v:RV):M (RV×Ups):=
  match P.underlying t,x,k with
  |some (.map c g),.ptr id 0,.d a=>M.bind (M.get id) fun
    | .map f j es=>
      if c=f∧g=j∧rX P c a=true then
        M.bind (rQ v) fun(p,u)=>
        match qv P c a es 0 with
        |some (some (i,x,_))=>if(u.map (·.1)).contains id then M.fail else M.py (xd a x) (.undef,u++[(id,.map c g (es.set i (a,p)))])
        |some none=>if(u.map (·.1)).contains id then M.fail else M.pure (.undef,u++[(id,.map c g (es++[(a,p)]))])
        |none=>M.fail
      else M.fail
    |_=>M.fail
  |_,_,_=>M.fail
def qu(P:Program)(id:Nat)(t t':TypeId)(s x:RV):M (RV×Ups):=
  match qc P t with
  |none=>M.fail
  |some e=>
    match szT P e,qd P e,pZ P e with
    |some (k+1),some (by_+1),some z=>
      if z.cells.size=k+1∧t=t' then
        M.bind (p7 x) fun xs=>
        (match s with
         | .px=>M.bind (M.pS id) fun _=>
           M.py (decide (xs.length*(by_+1)<=140737488355328)&&xs.all (fun e=>e.cells.length==k+1)) (.ref id 0,[(id,.arr 0 e xs)])
         | .ref a ver=>M.bind (M.get a) fun
           | .arr c f es=>
             if ver=c∧e=f then
               M.py (decide ((es.length+xs.length)*(by_+1)<=140737488355328)&&xs.all (fun e=>e.cells.length==k+1)) (.ref a (ver+1),[(a,.arr (ver+1) e (es++xs))])
             else M.fail
           | .nest c f e2 ess none=>
             if ver=c∧e=f∧k=0∧xs.all zK=true then
               M.py (decide ((ess.length+xs.length)*(by_+1)<=140737488355328)) (.ref a (ver+1),[(a,.nest (ver+1) e e2 (ess++B5 xs.length []) none)])
             else M.fail
           |_=>M.fail
         | .fview a ver hi=>M.bind (M.get a) fun
           | .arr c f es=>
             if ver=c∧e=f then
               M.py (decide (hi<=es.length∧(hi+xs.length)*(by_+1)<=140737488355328)&&xs.all (fun e=>e.cells.length==k+1)) (.d (.lst (es.take hi++xs)),[(a,.dead)])
             else M.fail
           |_=>M.fail
         | .dfull es=>M.py (decide ((es.length+xs.length)*(by_+1)<=140737488355328)&&(xs.all (fun e=>e.cells.length==k+1)&&es.all (fun e=>e.cells.length==k+1))) (.d (.lst (es++xs)),[])
         |_=>M.fail)
      else M.fail
    |_,_,_=>M.fail
end Go.Dw
