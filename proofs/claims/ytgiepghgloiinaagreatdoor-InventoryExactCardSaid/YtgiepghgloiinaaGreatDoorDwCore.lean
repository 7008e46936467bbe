
import Derived.Orders
set_option linter.unusedVariables false
set_option linter.unusedSimpArgs false
open List renaming replicate->AA

namespace Go.Dw
theorem om{p:Prop}(h:p:=by omega):p:=h
theorem sm{p:Prop}(h:p:=by simp):p:=h
theorem so{p:Prop}(h:p:=by simp;omega):p:=h
theorem za{p:Prop}(h:p:=by simp only;omega):p:=h
theorem zb{α β:Type}(a:α)(f:α->Option β):(some a).bind f=f a:=rfl
theorem zc{α:Type}{l:List α}{i:Nat}(h:i<l.length):l[i]? =some l[i]:=List.getElem?_eq_getElem h
inductive PD where
  |bool (b:Bool)
  |int (k:IntKind) (n:Int)
  |str (s:List UInt8)
  |lst (es:List PD)
  |agg (cs:List PD)
  |raw (v:Value)
  deriving Inhabited
inductive RV where
  |d (p:PD)
  |undef
  |junk
  |jt
  |agg (cs:List RV)
  |tup (cs:List RV)
  |ref (id ver:Nat)
  |ptr (id off:Nat)
  |elt (id ver i o:Nat)
  |cptr (cs:List PD)
  |view (id ver lo hi:Nat)
  |clo (f:FuncId) (cs:List RV)
  |fview (id ver hi:Nat)
  |err (ok:Bool)
  |dfull (es:List PD)
  |ifc (t:TypeId) (c:RV)
  |plit (cs:List RV)
  |pcp (c:RV)
  |rlit (cs:List RV)
  deriving Inhabited
inductive Box where
  |var (cs:List RV)
  |arr (ver:Nat) (e:TypeId) (es:List PD)
  |dead
  |map (kt vt:TypeId) (es:List (PD×PD))
  |nest (ver:Nat) (e e2:TypeId) (ess:List (List PD)) (nf:Option (Nat×RV))
  |mapn (kt vt e2:TypeId) (es:List (PD×List PD)) (nf:Option Nat)
  |hole (ver:Nat) (e:TypeId) (es:List PD) (i o:Nat) (rv:RV)
  |deep (ver:Nat) (e:TypeId) (es:List PD) (o:Nat) (e2:TypeId) (ts:List (Nat×TypeId)) (h:Option (Nat×RV))
  deriving Inhabited
abbrev kE:=Nat->Option Box
abbrev Ups:=List (Nat×Box)
def M(α:Type):Type:=kE->Option (α×List Nat×Bool)
namespace M
def pure{α:Type}(a:α):M α:=fun _=>some (a,[],true)
def bind{α β:Type}(m:M α)(f:α->M β):M β:=fun b=>
  match m b with
  |some (a,r,c)=>
    match f a b with
    |some (x,g,e)=>some (x,r++g,c&&e)
    |none=>none
  |none=>none
def fail{α:Type}:M α:=fun _=>none
def get(id:Nat):M Box:=fun b=>match b id with|some x=>some (x,[id],true)|none=>none
def ky(id:Nat):M Unit:=fun b=>match b id with|some _=>none|none=>some ((),[id],true)
def j6{α:Type}(c:Bool)(a:α):M α:=fun _=>some (a,[],c)
end M
def PD.cells:PD->List PD
  | .agg cs=>cs
  |p=>[p]
def PD.one:PD->Bool
  | .agg _=>false
  |_=>true
def RV.cells:RV->List RV
  | .agg cs=>cs
  | .d (.agg cs)=>cs.map .d
  |v=>[v]
def RV.one:RV->Bool
  | .d p=>p.one
  | .jt| .ref _ _| .ptr _ _| .elt _ _ _ _| .cptr _| .view _ _ _ _| .clo _ _| .fview _ _ _| .err _| .ifc _ _| .plit _| .rlit _| .pcp _=>true
  |_=>false
def RV.sized(v:RV):Bool:=v.cells.all RV.one
def nil0:PD:= .raw (.slice none 0 0)
def uQ:PD->Bool
  | .raw (.slice none 0 0)=>true
  |_=>false
def isNils:RV->Bool
  | .jt=>true
  |_=>false
inductive NC where
  |row (e:TypeId) (es:List PD)
  |val (v:RV)
def ncs(e2:TypeId)(ess:List (List PD)):Option (Nat×RV)->List NC
  |none=>ess.map (.row e2)
  |some (i,rv)=>(ess.map (.row e2)).set i (.val rv)
def nL:List RV->Option (List PD)
  | []=>some []
  | .d p::r=>match nL r with|some l=>some (p::l)|none=>none
  |_=>none
def vY(cs:List RV):RV:=match nL cs with|some l=>.d (.agg l)|none=>.agg cs
def qA:RV->M (PD×Ups)
  | .d p=>M.pure (p,[])
  | .jt=>M.pure (.lst [],[])
  | .ref id ver=>M.bind (M.get id) fun
    | .arr a _ es=>if ver=a then M.pure (.lst es,[(id,.dead)])else M.fail
    |_=>M.fail
  | .view id ver b hi=>M.bind (M.get id) fun
    | .arr a _ es=>if ver=a then M.j6 (decide (b<=hi∧hi<=es.length)) (.lst ((es.drop b).take (hi-b)),[(id,.dead)])else M.fail
    |_=>M.fail
  |_=>M.fail
def nT:List RV->M (List PD×Ups)
  | []=>M.pure ([],[])
  |c::r=>M.bind (qA c) fun(p,u)=>M.bind (nT r) fun(a,us)=>M.pure (p::a,u++us)
def sd(cs:List RV):Bool:= !cs.isEmpty&&cs.all isNils
def pT(mt:Bool)(cs:List RV):M (List PD×Ups):=if mt&&sd cs then M.pure (cs.map fun _=>nil0,[])else nT cs
def ni(v:RV):M (PD×Ups):=
  match v with
  | .agg cs=>M.bind (nT cs) fun(a,u)=>M.pure (.agg a,u)
  |v=>qA v
def kC(P:Program)(t:TypeId):Bool:=
  match P.underlying t with
  |some (.struct _)|some (.array _ _)=>true
  |_=>false
def szT(P:Program)(t:TypeId):Option Nat:=(P.info? t).map (·.size)
def lJ(P:Program)(t:TypeId):Option Nat:=(P.info? t).map (·.bytes)
def kZ(P:Program)(t:TypeId):Option Value:=(P.info? t).bind (·.zero)
def k9(P:Program)(t:TypeId):Option TypeId:=
  match P.underlying t with
  |some (.slice e)=>some e
  |_=>none
def mf:Value->RV
  | .bool b=>.d (.bool b)
  | .int k n=>.d (.int k n)
  | .string s=>.d (.str s.data.toList)
  | .slice none 0 0=>.jt
  | .func (.func f) ⟨[]⟩ ⟨[]⟩=>.d (.raw (.func (.func f) #[] #[]))
  | .nilFunc=>.d (.raw .nilFunc)
  | .nilIface=>.d (.raw .nilIface)
  | .pointer none=>.d (.raw (.pointer none))
  | .map none=>.d (.raw (.map none))
  |_=>.junk
def kD:Value->RV
  | .agg cs=>.agg (cs.toList.map mf)
  |v=>mf v
def andI(k:IntKind)(x y:Int):Int:=k.wrap (((BitVec.ofInt k.bits x &&& BitVec.ofInt k.bits y).toNat:Nat):Int)
def orI(k:IntKind)(x y:Int):Int:=k.wrap (((BitVec.ofInt k.bits x ||| BitVec.ofInt k.bits y).toNat:Nat):Int)
def xorI(k:IntKind)(x y:Int):Int:=k.wrap (((BitVec.ofInt k.bits x ^^^ BitVec.ofInt k.bits y).toNat:Nat):Int)
def uw(k:IntKind)(x y:Int):Int:=k.wrap (((BitVec.ofInt k.bits x &&& ~~~ BitVec.ofInt k.bits y).toNat:Nat):Int)
def shlI(k:IntKind)(x y:Int):Int:=k.wrap (x*2 ^ (min y.toNat k.bits))
def shrI(k:IntKind)(x y:Int):Int:=x.fdiv (2 ^ (min y.toNat k.bits))
def qV(op:BinOp)(k:IntKind)(x y:Int):Option (PD×Bool):=
  match op with
  | .add=>some (.int k (k.wrap (x+y)),true)
  | .sub=>some (.int k (k.wrap (x-y)),true)
  | .mul=>some (.int k (k.wrap (x*y)),true)
  | .quo=>some (.int k (k.wrap (x.tdiv y)),y != 0)
  | .rem=>some (.int k (x.tmod y),y != 0)
  | .eql=>some (.bool (x==y),true)
  | .neq=>some (.bool (x != y),true)
  | .lss=>some (.bool (decide (x<y)),true)
  | .leq=>some (.bool (decide (x<=y)),true)
  | .gtr=>some (.bool (decide (x>y)),true)
  | .geq=>some (.bool (decide (x>=y)),true)
  | .and=>some (.int k (andI k x y),true)
  | .or=>some (.int k (orI k x y),true)
  | .xor=>some (.int k (xorI k x y),true)
  | .andNot=>some (.int k (uw k x y),true)
  |_=>none
def vg(op:BinOp)(x y:List UInt8):Option (PD×Bool):=
  match op with
  | .add=>some (.str (x++y),decide (((x.length+y.length:Nat):Int)<=IntKind.i64.max))
  | .eql=>some (.bool (x==y),true)
  | .neq=>some (.bool !(x==y),true)
  | .lss=>some (.bool (Op.bytesLess x y),true)
  | .leq=>some (.bool (Op.bytesLess x y||x==y),true)
  | .gtr=>some (.bool !(Op.bytesLess x y||x==y),true)
  | .geq=>some (.bool !(Op.bytesLess x y),true)
  |_=>none
def tY(op:BinOp)(x y:RV):Option (PD×Bool):=
  match x,y with
  | .d (.int k a),.d (.int k' b)=>(match op with| .shl=>some (.int k (shlI k a b),decide (0<=b))| .shr=>some (.int k (shrI k a b),decide (0<=b))|op=>if k=k' then qV op k a b else none)
  | .d (.str a),.d (.str b)=>vg op a b
  |_,_=>none
def oR(o:Option (PD×Bool)):M (RV×Ups):=match o with|some (p,c)=>M.j6 c (.d p,[])|none=>M.fail
def kO(v:RV):M (RV×Ups):=M.pure (v,[])
def kJ(c:Bool)(v:RV):M (RV×Ups):=M.j6 c (v,[])
def lS(P:Program)(t:TypeId):Option (Bool×Nat):=
  match P.underlying t,szT P t with
  |some _,some n=>some (kC P t,n)
  |_,_=>none
def mi(P:Program)(t:TypeId)(cs:List PD):M (RV×Ups):=
  match lS P t with
  |none=>M.fail
  |some (true,n)=>kJ (decide (n<=cs.length)) (.d (.agg (cs.take n)))
  |some (false,_)=>match cs with|c::_=>kO (.d c)| []=>M.fail
def mB(P:Program)(t:TypeId)(cs:List RV)(off:Nat):M (RV×Ups):=
  match lS P t with
  |none=>M.fail
  |some (true,n)=>kJ (decide (off+n<=cs.length)) (vY ((cs.drop off).take n))
  |some (false,_)=>match cs[off]? with|some c=>kO c|none=>M.fail
def oe(P:Program)(t:TypeId)(cs:List PD)(off:Nat):Option PD:=
  match lS P t with
  |some (true,n)=>if off+n<=cs.length then some (.agg ((cs.drop off).take n))else none
  |some (false,_)=>cs[off]?
  |none=>none
def eqFs(P:Program)(rec:TypeId->PD->PD->Option Bool)(xs ys:List PD):List Field->Option Bool
  | []=>some true
  |f::r=>
    if f.name = "_" then none else
    match oe P f.type xs f.offset,oe P f.type ys f.offset with
    |some a,some b=>(match rec f.type a b,eqFs P rec xs ys r with|some p,some q=>some (p&&q)|_,_=>none)
    |_,_=>none
def ub(P:Program)(rec:PD->PD->Option Bool)(e:TypeId)(k:Nat)(xs ys:List PD):List Nat->Option Bool
  | []=>some true
  |i::r=>
    match oe P e xs (i*k),oe P e ys (i*k)with
    |some a,some b=>(match rec a b,ub P rec e k xs ys r with|some p,some q=>some (p&&q)|_,_=>none)
    |_,_=>none
def rZ(P:Program):Nat->TypeId->PD->PD->Option Bool
  |0,_,_,_=>none
  |d+1,t,x,y=>
    match P.underlying t,x,y with
    |some .bool,.bool a,.bool b=>some (a==b)
    |some (.int _),.int k a,.int k' b=>if k=k' then some (a==b)else none
    |some .string,.str a,.str b=>some (a==b)
    |some (.struct c),.agg xs,.agg ys=>if P.stoodInHeld t then none else eqFs P (rZ P d) xs ys c.toList
    |some (.array n e),.agg xs,.agg ys=>(match P.info? e with|some _=>ub P (rZ P d e) e (P.cellsOf e) xs ys (List.range n)|none=>none)
    |_,_,_=>none
def eqOp(P:Program)(op:BinOp)(t:TypeId)(x y:RV):Option (PD×Bool):=
  match op,x,y with
  | .eql,.d (.bool a),.d (.bool b)=>(match rZ P 1 t (.bool a) (.bool b)with|some r=>some (.bool r,true)|none=>none)
  | .neq,.d (.bool a),.d (.bool b)=>(match rZ P 1 t (.bool a) (.bool b)with|some r=>some (.bool !r,true)|none=>none)
  | .eql,.d (.agg a),.d (.agg b)=>if P.eqGuardType P.depth t then none else(match rZ P 20 t (.agg a) (.agg b)with|some r=>some (.bool r,true)|none=>none)
  | .neq,.d (.agg a),.d (.agg b)=>if P.eqGuardType P.depth t then none else(match rZ P 20 t (.agg a) (.agg b)with|some r=>some (.bool !r,true)|none=>none)
  | .eql,.d (.lst es),.jt=>(match P.underlying t with|some (.slice _)=>some (.bool false, !es.isEmpty)|_=>none)
  | .neq,.d (.lst es),.jt=>(match P.underlying t with|some (.slice _)=>some (.bool true, !es.isEmpty)|_=>none)
  | .eql,.jt,.jt=>(match P.underlying t with|some (.slice _)=>some (.bool true,true)|_=>none)
  | .neq,.jt,.jt=>(match P.underlying t with|some (.slice _)=>some (.bool false,true)|_=>none)
  |_,_,_=>none
def pN(P:Program)(op:BinOp)(t:TypeId)(x y:RV):Option (PD×Bool):=
  match tY op x y with
  |some r=>some r
  |none=>eqOp P op t x y
def isC:Operand->Bool
  | .const _=>true
  |_=>false
def wQ(P:Program)(op:BinOp)(t:TypeId)(c:Bool)(a b:RV):Option (PD×Bool):=
  match P.underlying t,op,a,b with
  |some (.interface _),.eql,.err b,.d (.raw .nilIface)=>some (.bool b,c|| !b)
  |some (.interface _),.neq,.err b,.d (.raw .nilIface)=>some (.bool !b,c|| !b)
  |some (.interface _),.eql,.d (.raw .nilIface),.d (.raw .nilIface)=>some (.bool true,c)
  |some (.interface _),.neq,.d (.raw .nilIface),.d (.raw .nilIface)=>some (.bool false,c)
  |_,_,_,_=>none
def binX(P:Program)(op:BinOp)(t:TypeId)(x y:Operand)(a b:RV):Option (PD×Bool):=
  match pN P op t a b with
  |some r=>some r
  |none=>wQ P op t (isC x||isC y) a b
def isPtr:RV->Bool
  | .ptr _ _=>true
  |_=>false
def uu(cs:List RV):Bool:= !cs.isEmpty&&cs.all isPtr
def o4(P:Program)(t:TypeId)(es:List PD)(i o q:Nat)(h:Option (Nat×RV)):M (RV×Ups):=
  match lS P t with
  |some (a,n)=>
    if a=false∧o=q then(match h with|some (j,rv)=>if i=j then kO rv else M.fail|none=>M.fail)
    else if q<o∨o+(if a=true then n else 1)<=q then(match es[i]? with|some e=>mi P t ((e.cells.drop o).take (if a=true then n else 1))|none=>M.fail)
    else M.fail
  |none=>M.fail
def mK(P:Program)(t:TypeId)(a:RV):M (RV×Ups):=
  match a with
  | .cptr cs=>mi P t cs
  | .pcp c=>(match lS P t with|some (false,_)=>kO c|_=>M.fail)
  | .ptr id off=>M.bind (M.get id) fun
    | .var cs=>mB P t cs off
    |_=>M.fail
  | .elt id ver i o=>M.bind (M.get id) fun
    | .arr b _ es=>
      if ver=b then(match es[i]? with|some e=>mi P t (e.cells.drop o)|none=>M.fail)
      else M.fail
    | .nest b _ _ _ (some (j,rv))=>if ver=b∧i=j∧o=0 then(match lS P t with|some (false,_)=>kO rv|_=>M.fail)else M.fail
    | .hole b _ _ j q rv=>if ver=b∧i=j∧o=q then(match lS P t with|some (false,_)=>kO rv|_=>M.fail)else M.fail
    | .deep b _ es q _ _ h=>if ver=b then o4 P t es i o q h else M.fail
    |_=>M.fail
  |_=>M.fail
def setCells(cs:List RV)(off:Nat):List RV->List RV
  | []=>cs
  |v::r=>setCells (cs.set off v) (off+1) r
def mS(cs:List PD)(off:Nat):List PD->List PD
  | []=>cs
  |v::r=>mS (cs.set off v) (off+1) r
def PD.put(e:PD)(o:Nat)(vs:List PD):PD:=
  match e with
  | .agg cs=>.agg (mS cs o vs)
  |e=>vs.headD e
def nI(P:Program)(t:TypeId)(a v:RV):M (RV×Ups):=
  match szT P t with
  |none=>M.fail
  |some n=>
    match a with
    | .ptr id off=>M.bind (M.get id) fun
      | .var cs=>M.j6 (v.sized&&decide (v.cells.length=n∧off+n<=cs.length)) (.undef,[(id,.var (setCells cs off v.cells))])
      |_=>M.fail
    | .elt id ver i o=>M.bind (M.get id) fun
      | .arr b e es=>
        if ver=b then
          M.bind (ni v) fun(p,u)=>
          match es[i]? with
          |some x=>if(u.map (·.1)).contains id then M.fail else M.j6 (v.sized&&decide (p.cells.length=n∧o+n<=x.cells.length)) (.undef,u++[(id,.arr b e (es.set i (x.put o p.cells)))])
          |none=>M.fail
        else M.fail
      | .nest b e e2 ess h=>if ver=b∧o=0∧n=1 then M.j6 (v.one&&decide (i<ess.length)&&(match h with|some (j,_)=>decide (i=j)|none=>true)) (.undef,[(id,.nest b e e2 ess (some (i,v)))])else M.fail
      | .hole b e es j q _=>if ver=b∧i=j∧o=q∧n=1 then M.j6 v.one (.undef,[(id,.hole b e es j q v)])else M.fail
      | .deep b e es q e2 ts h=>
        if ver=b then
          (if o = q ∧ n = 1 then (match h with | some (j, _) => if i = j then M.j6 v.one (.undef, [(id, .deep b e es q e2 ts (some (j, v)))]) else M.fail | none => M.fail)
           else if q<o∨o+n<=q then
             (match v, es[i]? with
              | .d p,some x=>M.j6 (v.sized&&decide (p.cells.length=n∧o+n<=x.cells.length)) (.undef,[(id,.deep b e (es.set i (x.put o p.cells)) q e2 ts h)])
              |_,_=>M.fail)
           else M.fail)
        else M.fail
      |_=>M.fail
    |_=>M.fail
def oa(P:Program)(t:TypeId)(f:Nat):Option (Nat×TypeId):=
  match P.underlying t with
  |some (.struct a)=>(match a[f]? with|some x=>some (x.offset,x.type)|none=>none)
  |_=>none
def pI(off:Nat)(x:RV):M (RV×Ups):=
  match x with
  | .ptr id o=>M.bind (M.get id) fun
    | .var _=>kO (.ptr id (o+off))
    |_=>M.fail
  | .elt id ver i o=>M.bind (M.get id) fun
    | .arr a _ _=>if ver=a then kO (.elt id ver i (o+off))else M.fail
    | .hole a _ _ _ _ _=>if ver=a then kO (.elt id ver i (o+off))else M.fail
    | .deep a _ _ _ _ _ _=>if ver=a then kO (.elt id ver i (o+off))else M.fail
    |_=>M.fail
  | .cptr cs=>kO (.cptr (cs.drop off))
  |_=>M.fail
def mg(P:Program)(t:TypeId)(x:RV)(f:Nat):M (RV×Ups):=
  match oa P t f with
  |none=>M.fail
  |some (off,a)=>
    match szT P a with
    |some (_+1)=>pI off x
    |_=>M.fail
def n4:RV->Option (List RV)
  | .agg cs=>some cs
  | .d (.agg cs)=>some (cs.map .d)
  |_=>none
def pQ(P:Program)(t:TypeId)(x:RV)(f:Nat):M (RV×Ups):=
  match oa P t f,n4 x with
  |some (off,a),some cs=>mB P a cs off
  |_,_=>M.fail
def pS(x i:RV):M (RV×Ups):=
  match x,i with
  | .d (.str s),.d (.int _ n)=>kJ (decide (0<=n∧n<s.length)) (.d (.int .u8 ((s.getD n.toNat 0).toNat:Nat)))
  |_,_=>M.fail
def qT(P:Program)(len:Nat)(e:TypeId)(x i:RV):M (RV×Ups):=
  match n4 x,i,szT P e with
  |some cs,.d (.int _ n),some k=>M.bind (M.j6 (decide (0<=n∧n<len)) ()) fun _=>mB P e cs (n.toNat*k)
  |_,_,_=>M.fail
def o5(P:Program)(t:TypeId)(x i:RV):M (RV×Ups):=
  match P.underlying t with
  |some .string=>pS x i
  |some (.array len e)=>qT P len e x i
  |_=>M.fail
def lz(P:Program)(t:TypeId)(x i:RV):M (RV×Ups):=
  match P.underlying t,i with
  |some (.slice e),.d (.int _ n)=>
    (match szT P e with
     |none=>M.fail
     |some k=>
       match x with
       | .d (.lst es)=>kJ (decide (0<=n∧n<es.length)&&((es.getD n.toNat default).cells.length==k)) (.cptr (es.getD n.toNat default).cells)
       | .plit cs=>kJ (decide (0<=n∧n<cs.length)&&decide (k=1)) (.pcp (cs.getD n.toNat default))
       | .ref id ver=>M.bind (M.get id) fun
         | .arr a b es=>if ver=a∧e=b then kJ (decide (0<=n∧n<es.length)) (.elt id ver n.toNat 0)else M.fail
         | .nest a b _ ess _=>if ver=a∧e=b then kJ (decide (0<=n∧n<ess.length)) (.elt id ver n.toNat 0)else M.fail
         | .hole a b es _ _ _=>if ver=a∧e=b then kJ (decide (0<=n∧n<es.length)) (.elt id ver n.toNat 0)else M.fail
         | .deep a b es _ _ _ _=>if ver=a∧e=b then kJ (decide (0<=n∧n<es.length)) (.elt id ver n.toNat 0)else M.fail
         |_=>M.fail
       | .view id ver c hi=>M.bind (M.get id) fun
         | .arr a b es=>if ver=a∧e=b then kJ (decide (0<=n∧n<(hi:Int)-c∧hi<=es.length)) (.elt id ver (c+n.toNat) 0)else M.fail
         |_=>M.fail
       |_=>M.fail)
  |some (.array len e),.d (.int _ n)=>
    (match szT P e with
     |some k=>M.bind (M.j6 (decide (0<=n∧n<len)) ()) fun _=>pI (n.toNat*k) x
     |none=>M.fail)
  |_,_=>M.fail
def bnd(o:Option RV)(a:Int):Option Int:=
  match o with
  |none=>some a
  |some (.d (.int _ n))=>some n
  |_=>none
def cut{α:Type}(l:List α)(a:Nat)(hi:Option Nat):List α:=
  match hi with
  |none=>l.drop a
  |some h=>(l.drop a).take (h-a)
def hiOf(o:Option RV)(h:Int):Option Nat:=match o with|none=>none|some _=>some h.toNat
def sliceB(P:Program)(e:TypeId)(id ver a b:Nat)(g hi:Option RV):M (RV×Ups):=
  match bnd g 0,bnd hi ((b:Int)-a),szT P e with
  |some l,some h,some (_+1)=>M.bind (M.get id) fun
    | .arr c f es=>if ver=c∧e=f then kJ (decide (a<=b∧b<=es.length∧0<=l∧l<=h∧h<=(b:Int)-a)) (.view id ver (a+l.toNat) (a+h.toNat))else M.fail
    |_=>M.fail
  |_,_,_=>M.fail
def rj(P:Program)(a:Nat)(e:TypeId)(n:Nat)(b hi c:Option RV):M (RV×Ups):=
  match bnd b 0,hi,c,szT P e with
  |some l,some (.d (.int _ h)),some (.d (.int _ m)),some (_+1)=>
    if l=0∧h=0∧m=0 then M.bind (M.ky a) fun _=>M.j6 (decide (0<=n)) (.ref a 0,[(a,.arr 0 e [])])else M.fail
  |_,_,_,_=>M.fail
def lD(P:Program)(e:TypeId)(k:Nat):Nat->List PD->List PD
  |0,_=>[]
  |n+1,cs=>(if kC P e then .agg (cs.take k)else cs.headD default)::lD P e k n (cs.drop k)
def p7(P:Program)(id:Nat)(a:TypeId):M (RV×Ups):=
  match P.underlying a with
  |some (.array n e)=>
    (match szT P e with
     |some (k+1)=>M.bind (M.get id) fun
       | .var cs => (match nL cs with
         |some b=>if kC P e=true∨k=0 then M.j6 (decide (b.length=n*(k+1))&&b.all PD.one) (.d (.lst (lD P e (k+1) n b)),[(id,.dead)])else M.fail
         |none=>M.fail)
       |_=>M.fail
     |_=>M.fail)
  |_=>M.fail
def pe(P:Program)(e:TypeId)(id ver:Nat)(c hi:Option RV)(f:RV):M (RV×Ups):=
  match c,hi,f,szT P e with
  |none,some (.d (.int _ h)),.d (.int _ m),some (_+1)=>
    if h=m then M.bind (M.get id) fun
      | .arr a b es=>if ver=a∧e=b then M.j6 (decide (0<=h∧h<=es.length)) (.fview id ver h.toNat,[])else M.fail
      |_=>M.fail
    else M.fail
  |_,_,_,_=>M.fail
def p8(P:Program)(a:TypeId)(cs:List PD):M (RV×Ups):=
  match P.underlying a with
  |some (.array n e)=>
    (match szT P e with
     |some (k+1)=>if kC P e=true∨k=0 then M.j6 (decide (n*(k+1)<=cs.length)&&(cs.take (n*(k+1))).all PD.one) (.d (.lst (lD P e (k+1) n (cs.take (n*(k+1))))),[])else M.fail
     |_=>M.fail)
  |_=>M.fail
def ta(P:Program)(e:TypeId)(es:List PD)(h m:Int):M (RV×Ups):=
  match szT P e with
  |some (_+1)=>if h=m then M.j6 (decide (h=es.length)) (.dfull es,[])else M.fail
  |_=>M.fail
def rT(P:Program)(t:TypeId)(x:RV)(c hi f:Option RV):M (RV×Ups):=
  match P.underlying t,x,c,hi,f with
  |some (.slice e),.ref id ver,none,some (.d (.int _ h)),none=>
    (match szT P e with
     |some (_+1)=>M.bind (M.get id) fun
       | .arr a b es=>if ver=a∧e=b then M.j6 (decide (0<=h∧h<=es.length)) (.ref id (ver+1),[(id,.arr (ver+1) e (es.take h.toNat))])else M.fail
       |_=>M.fail
     |_=>M.fail)
  |some (.slice e),.d (.lst es),none,some (.d (.int _ h)),some (.d (.int _ m))=>ta P e es h m
  |_,_,_,_,_=>M.fail
def lB(P:Program)(f:Nat)(t:TypeId)(x:RV)(c hi g:Option RV):M (RV×Ups):=
  match P.underlying t,x,g with
  |some (.slice e),.ref id ver,none=>M.bind (M.get id) fun
    | .arr _ _ es=>sliceB P e id ver 0 es.length c hi
    |_=>M.fail
  |some (.slice e),.view id ver a b,none=>sliceB P e id ver a b c hi
  |some (.array _ _),.ptr id 0,none=>(match c,hi with|none,none=>p7 P id t|_,_=>M.fail)
  |some (.array _ _),.cptr cs,none=>(match c,hi with|none,none=>p8 P t cs|_,_=>M.fail)
  | some (.slice e), .jt, none => (match bnd c 0, hi, szT P e with
    |some l,some (.d (.int _ h)),some _=>if l=0∧h=0 then M.pure (.jt,[])else M.fail
    |_,_,_=>M.fail)
  |some (.slice e),.d (.lst es),some m=>rj P f e es.length c hi (some m)
  |some (.slice e),.ref id ver,some m=>pe P e id ver c hi m
  |some .string,.d (.str s),none=>
    (match bnd c 0, bnd hi s.length with
     |some l,some h=>kJ (decide (0<=l∧l<=h∧h<=s.length)) (.d (.str (cut s l.toNat (hiOf hi h))))
     |_,_=>M.fail)
  |some (.slice e),.d (.lst es),none=>
    (match bnd c 0, bnd hi es.length, szT P e with
     |some l,some h,some k=>kJ (decide (0<=l∧l<=h∧h<=es.length)&&es.all (fun e=>e.cells.length==k)) (.d (.lst (cut es l.toNat (hiOf hi h))))
     |_,_,_=>M.fail)
  |_,_,_=>M.fail
def oc(place:Nat->Option (Nat×Nat))(cs:List RV):List (Nat×RV)->Option (List RV)
  | []=>some cs
  |(i,v)::r=>
    match place i with
    |some (off,k)=>if v.cells.length=k∧off+k<=cs.length then oc place (setCells cs off v.cells) r else none
    |none=>none
def uU(P:Program)(a:Array Field)(i:Nat):Option (Nat×Nat):=
  match a[i]? with
  |some f=>(match szT P f.type with|some k=>some (f.offset,k)|none=>none)
  |none=>none
def lU(parts:List (Nat×RV)):Bool:=parts.all fun x=>x.2.sized
def pP(P:Program)(t:TypeId)(parts:List (Nat×RV)):M (RV×Ups):=
  match P.underlying t,kZ P t with
  |some (.struct a),some z=>
    if a.toList.all fun f=>(szT P f.type).isSome then
      (match oc (uU P a) (kD z).cells parts with
       |some cs=>kJ (lU parts) (vY cs)
       |none=>M.fail)
    else M.fail
  |some (.array _ e),some z=>
    (match szT P e with
     | some k => (match oc (fun i => some (i * k, k)) (kD z).cells parts with
       |some cs=>kJ (lU parts) (vY cs)
       |none=>M.fail)
     |none=>M.fail)
  |_,_=>M.fail
def lO(P:Program)(mt:Bool)(id:Nat)(t:TypeId)(len:Nat)(parts:List (Nat×RV)):M (RV×Ups):=
  match k9 P t with
  |none=>M.fail
  |some e=>
    match szT P e,kZ P e with
    |some (k+1),some z=>
      if len*(k+1)<=2 ^ 24∧z.cells.size=k+1∧(kC P e=true∨k=0)then
        (match oc (fun i => some (i * (k + 1), k + 1)) (AA len (kD z).cells).flatten parts with
         |some cs=>if(mt&&uu cs)=true then M.j6 (lU parts&&decide (k=0)) (.plit cs,[])else M.bind (pT mt cs) fun(a,u)=>
           if mt&& !sd cs then M.bind (M.ky id) fun _=>M.j6 (lU parts&&a.all PD.one) (.ref id 0,u++[(id,.arr 0 e (lD P e (k+1) len a))])
           else M.j6 (lU parts&&a.all PD.one) (.d (.lst (lD P e (k+1) len a)),u)
         |none=>M.fail)
      else M.fail
    |_,_=>M.fail
def tA(P:Program)(t:TypeId)(len:Nat)(parts:List (Nat×RV)):M (RV×Ups):=
  match k9 P t with
  |none=>M.fail
  |some e=>
    match szT P e,kZ P e with
    |some (k+1),some z=>
      if len=1∧k+1<=2 ^ 24∧z.cells.size=k+1∧(kC P e=true∨k=0)then
        (match oc (fun i => some (i * (k + 1), k + 1)) (AA len (kD z).cells).flatten parts with
         |some cs=>M.j6 (lU parts&&cs.all RV.one) (.rlit cs,[])
         |none=>M.fail)
      else M.fail
    |_,_=>M.fail
def pM(P:Program)(id:Nat)(t:TypeId):M (RV×Ups):=
  match kZ P t with
  |some z=>M.bind (M.ky id) fun _=>M.pure (.ptr id 0,[(id,.var (kD z).cells)])
  |none=>M.fail
def boxD(id:Nat)(v:RV):M (RV×Ups):=
  M.bind (M.ky id) fun _=>M.j6 v.sized (.ptr id 0,[(id,.var v.cells)])
def tc(P:Program)(t:TypeId)(x:RV):M (RV×Ups):=
  match P.underlying t,x with
  |some .string,.d (.str s)=>kO (.d (.int .i64 s.length))
  |some (.slice _),.d (.lst es)=>kO (.d (.int .i64 es.length))
  |some (.slice _),.plit cs=>kO (.d (.int .i64 cs.length))
  |some (.slice _),.jt=>kO (.d (.int .i64 0))
  |some (.slice _),.ref id ver=>M.bind (M.get id) fun
    | .arr a _ es=>if ver=a then kO (.d (.int .i64 es.length))else M.fail
    | .nest a _ _ ess _=>if ver=a then kO (.d (.int .i64 ess.length))else M.fail
    | .hole a _ es _ _ _=>if ver=a then kO (.d (.int .i64 es.length))else M.fail
    | .deep a _ es _ _ _ _=>if ver=a then kO (.d (.int .i64 es.length))else M.fail
    |_=>M.fail
  |some (.slice _),.view id ver b hi=>M.bind (M.get id) fun
    | .arr a _ es=>if ver=a then kJ (decide (b<=hi∧hi<=es.length)) (.d (.int .i64 ((hi:Int)-b)))else M.fail
    |_=>M.fail
  |some (.map _ _),.ptr id 0=>M.bind (M.get id) fun
    | .map _ _ es=>kO (.d (.int .i64 es.length))
    |_=>M.fail
  |_,_=>M.fail
def kT(x:RV):M (List PD):=
  match x with
  | .d (.lst es)=>M.pure es
  | .jt=>M.pure []
  | .ref id ver=>M.bind (M.get id) fun
    | .arr a _ es=>if ver=a then M.pure es else M.fail
    |_=>M.fail
  | .view id ver b hi=>M.bind (M.get id) fun
    | .arr a _ es=>if ver=a then M.j6 (decide (b<=hi∧hi<=es.length)) ((es.drop b).take (hi-b))else M.fail
    |_=>M.fail
  |_=>M.fail
def qj(x:RV):M (Nat×Nat×TypeId×List PD×Nat×Nat):=
  match x with
  | .ref id ver=>M.bind (M.get id) fun
    | .arr a e es=>if ver=a then M.pure (id,ver,e,es,0,es.length)else M.fail
    |_=>M.fail
  | .view id ver b hi=>M.bind (M.get id) fun
    | .arr a e es=>if ver=a then M.j6 (decide (b<=hi∧hi<=es.length)) (id,ver,e,es,b,hi-b)else M.fail
    |_=>M.fail
  |_=>M.fail
def pE(P:Program)(t:TypeId)(x y:RV):M (RV×Ups):=
  match k9 P t with
  | some e => (match szT P e with
    |some (k+1)=>M.bind (qj x) fun d=>M.bind (kT y) fun ys=>
      M.j6 (decide (e=d.2.2.1)&&ys.all fun c=>c.cells.length==k+1)
        (.d (.int .i64 (Nat.min ys.length d.2.2.2.2.2:Nat)),[(d.1,.arr d.2.1 d.2.2.1 (d.2.2.2.1.take d.2.2.2.2.1++ys.take (Nat.min ys.length d.2.2.2.2.2)++d.2.2.2.1.drop (d.2.2.2.2.1+Nat.min ys.length d.2.2.2.2.2)))])
    |_=>M.fail)
  |none=>M.fail
def minL:Int->List RV->Option Int
  |n,[]=>some n
  |n,.d (.int _ m)::r=>minL (if m<n then m else n) r
  |_,_::_=>none
def maxL:Int->List RV->Option Int
  |n,[]=>some n
  |n,.d (.int _ m)::r=>maxL (if m>n then m else n) r
  |_,_::_=>none
def minD:List RV->M (RV×Ups)
  | .d (.int k n)::r=>(match minL n r with|some m=>M.pure (.d (.int k m),[])|none=>M.fail)
  |_=>M.fail
def maxD:List RV->M (RV×Ups)
  | .d (.int k n)::r=>(match maxL n r with|some m=>M.pure (.d (.int k m),[])|none=>M.fail)
  |_=>M.fail
def qL(v:Value):Option PD:=
  match mf v with
  | .d p=>some p
  | .jt=>some (.lst [])
  |_=>none
def pC:List Value->Option (List PD)
  | []=>some []
  |v::r=>match qL v,pC r with
    |some p,some l=>some (p::l)
    |_,_=>none
def l6:Value->Option PD
  | .agg cs=>(pC cs.toList).map .agg
  |v=>qL v
def nY(P:Program)(t:TypeId)(x:RV):M (RV×Ups):=
  match k9 P t with
  | some e => (match szT P e, (kZ P e).bind l6 with
    |some (k+1),some z=>M.bind (qj x) fun d=>
      M.j6 (decide (e=d.2.2.1)&&(z.cells.length==k+1))
        (.tup [],[(d.1,.arr d.2.1 d.2.2.1 (d.2.2.2.1.take d.2.2.2.2.1++AA d.2.2.2.2.2 z++d.2.2.2.1.drop (d.2.2.2.2.1+d.2.2.2.2.2)))])
    |_,_=>M.fail)
  |none=>M.fail
def mh(P:Program)(id:Nat)(t:TypeId)(l c:RV):M (RV×Ups):=
  match k9 P t,l,c with
  |some e,.d (.int _ n),.d (.int _ m)=>
    (match szT P e, lJ P e, (kZ P e).bind l6 with
     |some (k+1),some b,some z=>M.bind (M.ky id) fun _=>
       M.j6 (decide (n<=m∧0<=n∧m.toNat*b<=140737488355328∧m.toNat<=140737488355328)&&(z.cells.length==k+1)) (.ref id 0,[(id,.arr 0 e (AA n.toNat z))])
     |_,_,_=>M.fail)
  |_,_,_=>M.fail
def ru(P:Program)(id:Nat)(t t':TypeId)(s x:RV):M (RV×Ups):=
  match k9 P t,P.underlying t',s,x with
  |some e,some (.int _),.jt,.d (.int _ n)=>
    (match szT P e, lJ P e, (kZ P e).bind l6 with
     |some (k+1),some b,some z=>M.bind (M.ky id) fun _=>
       M.j6 (decide (0<n∧n.toNat*b<=140737488355328∧n.toNat<=140737488355328)&&(z.cells.length==k+1)) (.ref id 0,[(id,.arr 0 e (AA n.toNat z))])
     |_,_,_=>M.fail)
  |_,_,_,_=>M.fail
def capD(P:Program)(t:TypeId)(x:RV):M (RV×Ups):=
  match P.underlying t,x with
  |some (.slice _),.jt=>kO (.d (.int .i64 0))
  |_,_=>M.fail
def nu:PD->PD->Option Bool
  | .int k a,.int k' b=>if k=k' then some (a==b)else none
  | .str a,.str b=>some (a==b)
  | .bool a,.bool b=>some (a==b)
  |_,_=>none
def lZ:PD->Bool
  | .agg _=>true
  |_=>false
def qt(P:Program)(c:TypeId)(a b:PD):Option Bool:=
  match lZ a,lZ b with
  |true,true=>rZ P 20 c a b
  |false,false=>nu a b
  |_,_=>none
def kN(P:Program)(a:TypeId)(k:PD):List (PD×PD)->Nat->Option (Option (Nat×PD×PD))
  | [],_=>some none
  |(x,v)::r,i=>
    match qt P a k x with
    |some true=>some (some (i,x,v))
    |some false=>kN P a k r (i+1)
    |none=>none
def mP(P:Program):Nat->TypeId->PD->Bool
  |0,_,_=>false
  |d+1,t,k=>
    match P.underlying t,k with
    |some (.int q),.int b _=>decide (q=b)
    |some .string,.str _=>true
    |some .bool,.bool _=>true
    | some (.struct a), .agg cs => a.toList.all fun f => f.name != "_" && (match oe P f.type cs f.offset with | some p => mP P d f.type p | none => false)
    |_,_=>false
def lC(P:Program)(t:TypeId)(k:PD):Bool:=mP P 20 t k
def pA:PD->PD->Bool
  | .int k a,.int k' b=>decide (k=k')&&decide (a=b)
  | .str a,.str b=>decide (a=b)
  | .bool a,.bool b=>decide (a=b)
  |_,_=>false
def pB:List PD->List PD->Bool
  | [],[]=>true
  |a::r,b::q=>pA a b&&pB r q
  |_,_=>false
def pX:PD->PD->Bool
  | .agg a,.agg b=>pB a b
  |a,b=>pA a b
def ng(P:Program)(id:Nat)(t:TypeId):M (RV×Ups):=
  match P.underlying t with
  |some (.map a b)=>M.bind (M.ky id) fun _=>M.pure (.ptr id 0,[(id,.map a b [])])
  |_=>M.fail
def nv(P:Program)(t:TypeId)(x k:RV)(ok:Bool):M (RV×Ups):=
  match P.underlying t,x,k with
  |some (.map a f),.ptr id 0,.d e=>M.bind (M.get id) fun
    | .map b c es=>
      if a=b∧f=c∧lC P a e=true then
        (match kN P a e es 0, (kZ P f).bind l6 with
         |some (some (_,_,v)),_=>if ok then kO (.tup [.d v,.d (.bool true)])else kO (.d v)
         |some none,some z=>if ok then kO (.tup [.d z,.d (.bool false)])else kO (.d z)
         |_,_=>M.fail)
      else M.fail
    |_=>M.fail
  |_,_,_=>M.fail
def oC(P:Program)(t:TypeId)(x k v:RV):M (RV×Ups):=
  match P.underlying t,x,k with
  |some (.map b e),.ptr id 0,.d a=>M.bind (M.get id) fun
    | .map c f es=>
      if b=c∧e=f∧lC P b a=true then
        M.bind (ni v) fun(p,u)=>
        match kN P b a es 0 with
        |some (some (i,x,_))=>if(u.map (·.1)).contains id then M.fail else M.j6 (pX a x) (.undef,u++[(id,.map b e (es.set i (a,p)))])
        |some none=>if(u.map (·.1)).contains id then M.fail else M.pure (.undef,u++[(id,.map b e (es++[(a,p)]))])
        |none=>M.fail
      else M.fail
    |_=>M.fail
  |_,_,_=>M.fail
def sa(es:List (PD×List PD)):List (PD×PD):=es.map fun x=>(x.1,.lst x.2)
def isZ0:Option Value->Bool
  |some (.slice none 0 0)=>true
  |_=>false
def nF(P:Program)(id:Nat)(t:TypeId):M (RV×Ups):=
  match P.underlying t with
  |some (.map b a)=>
    (match (k9 P a).bind fun e2 => (szT P e2).map fun k => (e2, k) with
     |some (e2,_+1)=>M.bind (M.ky id) fun _=>M.pure (.ptr id 0,[(id,.mapn b a e2 [] none)])
     |_=>M.fail)
  |_=>M.fail
def mQ(P:Program)(a:Nat)(t:TypeId)(x k:RV):M (RV×Ups):=
  match P.underlying t,x,k with
  |some (.map b e),.ptr id 0,.d c=>M.bind (M.get id) fun
    | .mapn f g e2 es none=>
      if b=f∧e=g∧lC P b c=true∧a≠id then
        M.bind (M.ky a) fun _=>
        match kN P b c (sa es) 0 with
        |some (some (i,x,.lst row))=>M.j6 (pX c x) (.tup [.ref a 0,.d (.int .i64 i)],[(id,.mapn b e e2 es (some i)),(a,.arr 0 e2 row)])
        |some none=>if isZ0 (kZ P e)=true then M.pure (.tup [.ref a 0,.d (.int .i64 es.length)],[(id,.mapn b e e2 (es++[(c,[])]) (some es.length)),(a,.arr 0 e2 [])])else M.fail
        |_=>M.fail
      else M.fail
    |_=>M.fail
  |_,_,_=>M.fail
def lQ(x a v:RV):M (RV×Ups):=
  match x,a,v with
  | .ptr id 0,.d (.int _ n),.ref k f=>M.bind (M.get id) fun
    | .mapn e g e2 es (some i)=>M.bind (M.get k) fun
      | .arr b c row=>if f=b∧c=e2∧k≠id∧n=i then(match es[i]? with|some (key,_)=>M.pure (.undef,[(k,.dead),(id,.mapn e g e2 (es.set i (key,row)) none)])|none=>M.fail)else M.fail
      |_=>M.fail
    |_=>M.fail
  |_,_,_=>M.fail
def lW(P:Program)(id:Nat)(t t':TypeId)(s x:RV):M (RV×Ups):=
  match k9 P t with
  |none=>M.fail
  |some e=>
    match szT P e,lJ P e,kZ P e with
    |some (k+1),some (by_+1),some z=>
      if z.cells.size=k+1∧t=t' then
        M.bind (kT x) fun xs=>
        (match s with
         | .jt=>M.bind (M.ky id) fun _=>
           M.j6 (decide (xs.length*(by_+1)<=140737488355328)&&xs.all (fun e=>e.cells.length==k+1)) (.ref id 0,[(id,.arr 0 e xs)])
         | .ref a ver=>M.bind (M.get a) fun
           | .arr b c es=>
             if ver=b∧e=c then
               M.j6 (decide ((es.length+xs.length)*(by_+1)<=140737488355328)&&xs.all (fun e=>e.cells.length==k+1)) (.ref a (ver+1),[(a,.arr (ver+1) e (es++xs))])
             else M.fail
           | .nest b c e2 ess none=>
             if ver=b∧e=c∧k=0∧xs.all uQ=true then
               M.j6 (decide ((ess.length+xs.length)*(by_+1)<=140737488355328)) (.ref a (ver+1),[(a,.nest (ver+1) e e2 (ess++AA xs.length []) none)])
             else M.fail
           |_=>M.fail
         | .fview a ver hi=>M.bind (M.get a) fun
           | .arr b c es=>
             if ver=b∧e=c then
               M.j6 (decide (hi<=es.length∧(hi+xs.length)*(by_+1)<=140737488355328)&&xs.all (fun e=>e.cells.length==k+1)) (.d (.lst (es.take hi++xs)),[(a,.dead)])
             else M.fail
           |_=>M.fail
         | .dfull es=>M.j6 (decide ((es.length+xs.length)*(by_+1)<=140737488355328)&&(xs.all (fun e=>e.cells.length==k+1)&&es.all (fun e=>e.cells.length==k+1))) (.d (.lst (es++xs)),[])
         |_=>M.fail)
      else M.fail
    |_,_,_=>M.fail
def o0(ts:List (Nat×TypeId))(e2:TypeId)(e:Nat):Box->Option (List PD)
  | .arr a b row=>if ts=[]∧e=a∧b=e2 then some row else none
  | .deep a b row q f c none=>if ts=(q,f)::c∧e=a∧b=e2 then some row else none
  |_=>none
def tB(a:Nat)(e2:TypeId)(ts:List (Nat×TypeId))(c:Option RV):M (List PD×Ups):=
  match c with
  |some .jt=>M.pure ([],[])
  |some (.ref k e)=>M.bind (M.get k) fun b=>
    match o0 ts e2 e b with
    |some row=>if k≠a then M.pure (row,[(k,.dead)])else M.fail
    |none=>M.fail
  |_=>M.fail
def mz(P:Program)(t t':TypeId)(s:RV)(cs:List RV):M (RV×Ups):=
  match k9 P t with
  |none=>M.fail
  |some e=>
    match szT P e,lJ P e,kZ P e,s with
    |some (k+1),some (by_+1),some z,.ref a ver=>
      if z.cells.size=k+1∧t=t' then
        M.bind (M.get a) fun
        | .deep b f es q e2 ts none=>
          if ver=b∧e=f∧cs.length=k+1 then
            M.bind (tB a e2 ts cs[q]?) fun(row,u)=>
            match nL (cs.set q (.d (.lst row)))with
            |some c=>M.j6 (decide ((es.length+1)*(by_+1)<=140737488355328)&&c.all PD.one) (.ref a (ver+1),u++[(a,.deep (ver+1) e (es++[.agg c]) q e2 ts none)])
            |none=>M.fail
          else M.fail
        |_=>M.fail
      else M.fail
    |_,_,_,_=>M.fail
def lF(P:Program)(id:Nat)(t t':TypeId)(s x:RV):M (RV×Ups):=
  match x with
  | .rlit cs=>mz P t t' s cs
  |x=>lW P id t t' s x
end Go.Dw
