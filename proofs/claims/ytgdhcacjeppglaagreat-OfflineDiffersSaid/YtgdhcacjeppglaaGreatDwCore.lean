
import Derived.Orders
set_option linter.unusedVariables false
set_option linter.unusedSimpArgs false
open List renaming replicate->AA

namespace Go.Dw
theorem om{p:Prop}(h:p:=by omega):p:=h
theorem sm{p:Prop}(h:p:=by simp):p:=h
theorem so{p:Prop}(h:p:=by simp;omega):p:=h
theorem za{p:Prop}(h:p:=by simp only;omega):p:=h
theorem zb{α β:Type}(a:α)(f:α->Option β):(some a).bind f=f a:=rfl
theorem zc{α:Type}{l:List α}{i:Nat}(h:i<l.length):l[i]? =some l[i]:=List.getElem?_eq_getElem h
inductive PD where
  |bool (b:Bool)
  |int (k:IntKind) (n:Int)
  |str (s:List UInt8)
  |lst (es:List PD)
  |agg (cs:List PD)
  |raw (v:Value)
  deriving Inhabited
inductive RV where
  |d (p:PD)
  |undef
  |junk
  |cL
  |agg (cs:List RV)
  |tup (cs:List RV)
  |ref (id ver:Nat)
  |ptr (id off:Nat)
  |elt (id ver i o:Nat)
  |cptr (cs:List PD)
  |view (id ver lo hi:Nat)
  |clo (f:FuncId) (cs:List RV)
  |fview (id ver hi:Nat)
  |err (ok:Bool)
  |dfull (es:List PD)
  |ifc (t:TypeId) (c:RV)
  |plit (cs:List RV)
  |pcp (c:RV)
  |rlit (cs:List RV)
  |bnd (f:FuncId) (c:RV)
  |rfn (id ver n:Nat)
  deriving Inhabited
inductive Box where
  |var (cs:List RV)
  |arr (ver:Nat) (e:TypeId) (es:List PD)
  |dead
  |map (kt vt:TypeId) (es:List (PD×PD))
  |nest (ver:Nat) (e e2:TypeId) (ess:List (List PD)) (eR:Option (Nat×RV))
  |mapn (kt vt e2:TypeId) (es:List (PD×List PD)) (eR:Option Nat)
  |hole (ver:Nat) (e:TypeId) (es:List PD) (i o:Nat) (rv:RV)
  |deep (ver:Nat) (e:TypeId) (es:List PD) (o:Nat) (e2:TypeId) (ts:List (Nat×TypeId)) (h:Option (Nat×RV))
  deriving Inhabited
abbrev cI:=Nat->Option Box
abbrev Ups:=List (Nat×Box)
def M(α:Type):Type:=cI->Option (α×List Nat×Bool)
namespace M
def pure{α:Type}(a:α):M α:=fun _=>some (a,[],true)
def bind{α β:Type}(m:M α)(f:α->M β):M β:=fun b=>
  match m b with
  |some (a,r,c)=>
    match f a b with
    |some (x,g,e)=>some (x,r++g,c&&e)
    |none=>none
  |none=>none
def fail{α:Type}:M α:=fun _=>none
def get(id:Nat):M Box:=fun b=>match b id with|some x=>some (x,[id],true)|none=>none
def cE(id:Nat):M Unit:=fun b=>match b id with|some _=>none|none=>some ((),[id],true)
def cr{α:Type}(c:Bool)(a:α):M α:=fun _=>some (a,[],c)
end M
def PD.cells:PD->List PD
  | .agg cs=>cs
  |p=>[p]
def PD.one:PD->Bool
  | .agg _=>false
  |_=>true
def RV.cells:RV->List RV
  | .agg cs=>cs
  | .d (.agg cs)=>cs.map .d
  |v=>[v]
def RV.one:RV->Bool
  | .d p=>p.one
  | .cL| .ref _ _| .ptr _ _| .elt _ _ _ _| .cptr _| .view _ _ _ _| .clo _ _| .fview _ _ _| .err _| .ifc _ _| .plit _| .rlit _| .pcp _| .bnd _ _| .rfn _ _ _=>true
  |_=>false
def RV.sized(v:RV):Bool:=v.cells.all RV.one
def nil0:PD:= .raw (.slice none 0 0)
def lP:PD->Bool
  | .raw (.slice none 0 0)=>true
  |_=>false
def isNils:RV->Bool
  | .cL=>true
  |_=>false
inductive NC where
  |row (e:TypeId) (es:List PD)
  |val (v:RV)
def ncs(e2:TypeId)(ess:List (List PD)):Option (Nat×RV)->List NC
  |none=>ess.map (.row e2)
  |some (i,rv)=>(ess.map (.row e2)).set i (.val rv)
def fQ:List RV->Option (List PD)
  | []=>some []
  | .d p::r=>match fQ r with|some l=>some (p::l)|none=>none
  |_=>none
def mD(cs:List RV):RV:=match fQ cs with|some l=>.d (.agg l)|none=>.agg cs
def iU:RV->M (PD×Ups)
  | .d p=>M.pure (p,[])
  | .cL=>M.pure (.lst [],[])
  | .ref id ver=>M.bind (M.get id) fun
    | .arr a _ es=>if ver=a then M.pure (.lst es,[(id,.dead)])else M.fail
    |_=>M.fail
  | .view id ver c b=>M.bind (M.get id) fun
    | .arr a _ es=>if ver=a then M.cr (decide (c<=b∧b<=es.length)) (.lst ((es.drop c).take (b-c)),[(id,.dead)])else M.fail
    |_=>M.fail
  |_=>M.fail
def fH:List RV->M (List PD×Ups)
  | []=>M.pure ([],[])
  |c::r=>M.bind (iU c) fun(p,u)=>M.bind (fH r) fun(a,us)=>M.pure (p::a,u++us)
def jQ(cs:List RV):Bool:= !cs.isEmpty&&cs.all isNils
def iq(mt:Bool)(cs:List RV):M (List PD×Ups):=if mt&&jQ cs then M.pure (cs.map fun _=>nil0,[])else fH cs
def eX(v:RV):M (PD×Ups):=
  match v with
  | .agg cs=>M.bind (fH cs) fun(a,u)=>M.pure (.agg a,u)
  |v=>iU v
def cM(P:Program)(t:TypeId):Bool:=
  match P.underlying t with
  |some (.struct _)|some (.array _ _)=>true
  |_=>false
def szT(P:Program)(t:TypeId):Option Nat:=(P.info? t).map (·.size)
def dV(P:Program)(t:TypeId):Option Nat:=(P.info? t).map (·.bytes)
def df(P:Program)(t:TypeId):Option Value:=(P.info? t).bind (·.zero)
def dm(P:Program)(t:TypeId):Option TypeId:=
  match P.underlying t with
  |some (.slice e)=>some e
  |_=>none
def dW:Value->RV
  | .bool b=>.d (.bool b)
  | .int k n=>.d (.int k n)
  | .string s=>.d (.str s.data.toList)
  | .slice none 0 0=>.cL
  | .func (.func f) ⟨[]⟩ ⟨[]⟩=>.d (.raw (.func (.func f) #[] #[]))
  | .nilFunc=>.d (.raw .nilFunc)
  | .nilIface=>.d (.raw .nilIface)
  | .pointer none=>.d (.raw (.pointer none))
  | .map none=>.d (.raw (.map none))
  |_=>.junk
def cH:Value->RV
  | .agg cs=>.agg (cs.toList.map dW)
  |v=>dW v
def andI(k:IntKind)(x y:Int):Int:=k.wrap (((BitVec.ofInt k.bits x &&& BitVec.ofInt k.bits y).toNat:Nat):Int)
def orI(k:IntKind)(x y:Int):Int:=k.wrap (((BitVec.ofInt k.bits x ||| BitVec.ofInt k.bits y).toNat:Nat):Int)
def xorI(k:IntKind)(x y:Int):Int:=k.wrap (((BitVec.ofInt k.bits x ^^^ BitVec.ofInt k.bits y).toNat:Nat):Int)
def lu(k:IntKind)(x y:Int):Int:=k.wrap (((BitVec.ofInt k.bits x &&& ~~~ BitVec.ofInt k.bits y).toNat:Nat):Int)
def shlI(k:IntKind)(x y:Int):Int:=k.wrap (x*2 ^ (min y.toNat k.bits))
def shrI(k:IntKind)(x y:Int):Int:=x.fdiv (2 ^ (min y.toNat k.bits))
def kk(op:BinOp)(k:IntKind)(x y:Int):Option (PD×Bool):=
  match op with
  | .add=>some (.int k (k.wrap (x+y)),true)
  | .sub=>some (.int k (k.wrap (x-y)),true)
  | .mul=>some (.int k (k.wrap (x*y)),true)
  | .quo=>some (.int k (k.wrap (x.tdiv y)),y != 0)
  | .rem=>some (.int k (x.tmod y),y != 0)
  | .eql=>some (.bool (x==y),true)
  | .neq=>some (.bool (x != y),true)
  | .lss=>some (.bool (decide (x<y)),true)
  | .leq=>some (.bool (decide (x<=y)),true)
  | .gtr=>some (.bool (decide (x>y)),true)
  | .geq=>some (.bool (decide (x>=y)),true)
  | .and=>some (.int k (andI k x y),true)
  | .or=>some (.int k (orI k x y),true)
  | .xor=>some (.int k (xorI k x y),true)
  | .andNot=>some (.int k (lu k x y),true)
  |_=>none
def nL(op:BinOp)(x y:List UInt8):Option (PD×Bool):=
  match op with
  | .add=>some (.str (x++y),decide (((x.length+y.length:Nat):Int)<=IntKind.i64.max))
  | .eql=>some (.bool (x==y),true)
  | .neq=>some (.bool !(x==y),true)
  | .lss=>some (.bool (Op.bytesLess x y),true)
  | .leq=>some (.bool (Op.bytesLess x y||x==y),true)
  | .gtr=>some (.bool !(Op.bytesLess x y||x==y),true)
  | .geq=>some (.bool !(Op.bytesLess x y),true)
  |_=>none
def binPD(op:BinOp)(x y:RV):Option (PD×Bool):=
  match x,y with
  | .d (.int k a),.d (.int k' b)=>(match op with| .shl=>some (.int k (shlI k a b),decide (0<=b))| .shr=>some (.int k (shrI k a b),decide (0<=b))|op=>if k=k' then kk op k a b else none)
  | .d (.str a),.d (.str b)=>nL op a b
  |_,_=>none
def gD(o:Option (PD×Bool)):M (RV×Ups):=match o with|some (p,c)=>M.cr c (.d p,[])|none=>M.fail
def cQ(v:RV):M (RV×Ups):=M.pure (v,[])
def cK(c:Bool)(v:RV):M (RV×Ups):=M.cr c (v,[])
def dQ(P:Program)(t:TypeId):Option (Bool×Nat):=
  match P.underlying t,szT P t with
  |some _,some n=>some (cM P t,n)
  |_,_=>none
def ep(P:Program)(t:TypeId)(cs:List PD):M (RV×Ups):=
  match dQ P t with
  |none=>M.fail
  |some (true,n)=>cK (decide (n<=cs.length)) (.d (.agg (cs.take n)))
  |some (false,_)=>match cs with|c::_=>cQ (.d c)| []=>M.fail
def er(P:Program)(t:TypeId)(cs:List RV)(off:Nat):M (RV×Ups):=
  match dQ P t with
  |none=>M.fail
  |some (true,n)=>cK (decide (off+n<=cs.length)) (mD ((cs.drop off).take n))
  |some (false,_)=>match cs[off]? with|some c=>cQ c|none=>M.fail
def fT(P:Program)(t:TypeId)(cs:List PD)(off:Nat):Option PD:=
  match dQ P t with
  |some (true,n)=>if off+n<=cs.length then some (.agg ((cs.drop off).take n))else none
  |some (false,_)=>cs[off]?
  |none=>none
def eqFs(P:Program)(rec:TypeId->PD->PD->Option Bool)(xs ys:List PD):List Field->Option Bool
  | []=>some true
  |f::r=>
    if f.name = "_" then none else
    match fT P f.type xs f.offset,fT P f.type ys f.offset with
    |some a,some b=>(match rec f.type a b,eqFs P rec xs ys r with|some p,some q=>some (p&&q)|_,_=>none)
    |_,_=>none
def kX(P:Program)(rec:PD->PD->Option Bool)(e:TypeId)(k:Nat)(xs ys:List PD):List Nat->Option Bool
  | []=>some true
  |i::r=>
    match fT P e xs (i*k),fT P e ys (i*k)with
    |some a,some b=>(match rec a b,kX P rec e k xs ys r with|some p,some q=>some (p&&q)|_,_=>none)
    |_,_=>none
def jN(P:Program):Nat->TypeId->PD->PD->Option Bool
  |0,_,_,_=>none
  |d+1,t,x,y=>
    match P.underlying t,x,y with
    |some .bool,.bool a,.bool b=>some (a==b)
    |some (.int _),.int k a,.int k' b=>if k=k' then some (a==b)else none
    |some .string,.str a,.str b=>some (a==b)
    |some (.struct c),.agg xs,.agg ys=>if P.stoodInHeld t then none else eqFs P (jN P d) xs ys c.toList
    |some (.array n e),.agg xs,.agg ys=>(match P.info? e with|some _=>kX P (jN P d e) e (P.cellsOf e) xs ys (List.range n)|none=>none)
    |_,_,_=>none
def eqOp(P:Program)(op:BinOp)(t:TypeId)(x y:RV):Option (PD×Bool):=
  match op,x,y with
  | .eql,.d (.bool a),.d (.bool b)=>(match jN P 1 t (.bool a) (.bool b)with|some r=>some (.bool r,true)|none=>none)
  | .neq,.d (.bool a),.d (.bool b)=>(match jN P 1 t (.bool a) (.bool b)with|some r=>some (.bool !r,true)|none=>none)
  | .eql,.d (.agg a),.d (.agg b)=>if P.eqGuardType P.depth t then none else(match jN P 20 t (.agg a) (.agg b)with|some r=>some (.bool r,true)|none=>none)
  | .neq,.d (.agg a),.d (.agg b)=>if P.eqGuardType P.depth t then none else(match jN P 20 t (.agg a) (.agg b)with|some r=>some (.bool !r,true)|none=>none)
  | .eql,.d (.lst es),.cL=>(match P.underlying t with|some (.slice _)=>some (.bool false, !es.isEmpty)|_=>none)
  | .neq,.d (.lst es),.cL=>(match P.underlying t with|some (.slice _)=>some (.bool true, !es.isEmpty)|_=>none)
  | .eql,.cL,.cL=>(match P.underlying t with|some (.slice _)=>some (.bool true,true)|_=>none)
  | .neq,.cL,.cL=>(match P.underlying t with|some (.slice _)=>some (.bool false,true)|_=>none)
  |_,_,_=>none
def binT(P:Program)(op:BinOp)(t:TypeId)(x y:RV):Option (PD×Bool):=
  match binPD op x y with
  |some r=>some r
  |none=>eqOp P op t x y
def isC:Operand->Bool
  | .const _=>true
  |_=>false
def nu(P:Program)(op:BinOp)(t:TypeId)(c:Bool)(a b:RV):Option (PD×Bool):=
  match P.underlying t,op,a,b with
  |some (.interface _),.eql,.err b,.d (.raw .nilIface)=>some (.bool b,c|| !b)
  |some (.interface _),.neq,.err b,.d (.raw .nilIface)=>some (.bool !b,c|| !b)
  |some (.interface _),.eql,.d (.raw .nilIface),.d (.raw .nilIface)=>some (.bool true,c)
  |some (.interface _),.neq,.d (.raw .nilIface),.d (.raw .nilIface)=>some (.bool false,c)
  |_,_,_,_=>none
def binX(P:Program)(op:BinOp)(t:TypeId)(x y:Operand)(a b:RV):Option (PD×Bool):=
  match binT P op t a b with
  |some r=>some r
  |none=>nu P op t (isC x||isC y) a b
def isPtr:RV->Bool
  | .ptr _ _=>true
  | .bnd _ _=>true
  |_=>false
def lq(cs:List RV):Bool:= !cs.isEmpty&&cs.all isPtr
def jc(P:Program)(t:TypeId)(es:List PD)(i o q:Nat)(h:Option (Nat×RV)):M (RV×Ups):=
  match dQ P t with
  |some (a,n)=>
    if a=false∧o=q then(match h with|some (j,rv)=>if i=j then cQ rv else M.fail|none=>M.fail)
    else if q<o∨o+(if a=true then n else 1)<=q then(match es[i]? with|some e=>ep P t ((e.cells.drop o).take (if a=true then n else 1))|none=>M.fail)
    else M.fail
  |none=>M.fail
def e7(P:Program)(t:TypeId)(a:RV):M (RV×Ups):=
  match a with
  | .cptr cs=>ep P t cs
  | .pcp c=>(match dQ P t with|some (false,_)=>cQ c|_=>M.fail)
  | .ptr id off=>M.bind (M.get id) fun
    | .var cs=>er P t cs off
    |_=>M.fail
  | .elt id ver i o=>M.bind (M.get id) fun
    | .arr b _ es=>
      if ver=b then(match es[i]? with|some e=>ep P t (e.cells.drop o)|none=>M.fail)
      else M.fail
    | .nest b _ _ _ (some (j,rv))=>if ver=b∧i=j∧o=0 then(match dQ P t with|some (false,_)=>cQ rv|_=>M.fail)else M.fail
    | .hole b _ _ j q rv=>if ver=b∧i=j∧o=q then(match dQ P t with|some (false,_)=>cQ rv|_=>M.fail)else M.fail
    | .deep b _ es q _ _ h=>if ver=b then jc P t es i o q h else M.fail
    |_=>M.fail
  |_=>M.fail
def setCells(cs:List RV)(off:Nat):List RV->List RV
  | []=>cs
  |v::r=>setCells (cs.set off v) (off+1) r
def eJ(cs:List PD)(off:Nat):List PD->List PD
  | []=>cs
  |v::r=>eJ (cs.set off v) (off+1) r
def PD.put(e:PD)(o:Nat)(vs:List PD):PD:=
  match e with
  | .agg cs=>.agg (eJ cs o vs)
  |e=>vs.headD e
def gT(P:Program)(t:TypeId)(a v:RV):M (RV×Ups):=
  match szT P t with
  |none=>M.fail
  |some n=>
    match a with
    | .ptr id off=>M.bind (M.get id) fun
      | .var cs=>M.cr (v.sized&&decide (v.cells.length=n∧off+n<=cs.length)) (.undef,[(id,.var (setCells cs off v.cells))])
      |_=>M.fail
    | .elt id ver i o=>M.bind (M.get id) fun
      | .arr b e es=>
        if ver=b then
          M.bind (eX v) fun(p,u)=>
          match es[i]? with
          |some x=>if(u.map (·.1)).contains id then M.fail else M.cr (v.sized&&decide (p.cells.length=n∧o+n<=x.cells.length)) (.undef,u++[(id,.arr b e (es.set i (x.put o p.cells)))])
          |none=>M.fail
        else M.fail
      | .nest b e e2 ess h=>if ver=b∧o=0∧n=1 then M.cr (v.one&&decide (i<ess.length)&&(match h with|some (j,_)=>decide (i=j)|none=>true)) (.undef,[(id,.nest b e e2 ess (some (i,v)))])else M.fail
      | .hole b e es j q _=>if ver=b∧i=j∧o=q∧n=1 then M.cr v.one (.undef,[(id,.hole b e es j q v)])else M.fail
      | .deep b e es q e2 ts h=>
        if ver=b then
          (if o = q ∧ n = 1 then (match h with | some (j, _) => if i = j then M.cr v.one (.undef, [(id, .deep b e es q e2 ts (some (j, v)))]) else M.fail | none => M.fail)
           else if q<o∨o+n<=q then
             (match v, es[i]? with
              | .d p,some x=>M.cr (v.sized&&decide (p.cells.length=n∧o+n<=x.cells.length)) (.undef,[(id,.deep b e (es.set i (x.put o p.cells)) q e2 ts h)])
              |_,_=>M.fail)
           else M.fail)
        else M.fail
      |_=>M.fail
    |_=>M.fail
def fR(P:Program)(t:TypeId)(f:Nat):Option (Nat×TypeId):=
  match P.underlying t with
  |some (.struct a)=>(match a[f]? with|some x=>some (x.offset,x.type)|none=>none)
  |_=>none
def hZ(off:Nat)(x:RV):M (RV×Ups):=
  match x with
  | .ptr id o=>M.bind (M.get id) fun
    | .var _=>cQ (.ptr id (o+off))
    |_=>M.fail
  | .elt id ver i o=>M.bind (M.get id) fun
    | .arr a _ _=>if ver=a then cQ (.elt id ver i (o+off))else M.fail
    | .hole a _ _ _ _ _=>if ver=a then cQ (.elt id ver i (o+off))else M.fail
    | .deep a _ _ _ _ _ _=>if ver=a then cQ (.elt id ver i (o+off))else M.fail
    |_=>M.fail
  | .cptr cs=>cQ (.cptr (cs.drop off))
  |_=>M.fail
def dX(P:Program)(t:TypeId)(x:RV)(f:Nat):M (RV×Ups):=
  match fR P t f with
  |none=>M.fail
  |some (off,a)=>
    match szT P a with
    |some (_+1)=>hZ off x
    |_=>M.fail
def fP:RV->Option (List RV)
  | .agg cs=>some cs
  | .d (.agg cs)=>some (cs.map .d)
  |_=>none
def ij(P:Program)(t:TypeId)(x:RV)(f:Nat):M (RV×Ups):=
  match fR P t f,fP x with
  |some (off,a),some cs=>er P a cs off
  |_,_=>M.fail
def jh(x i:RV):M (RV×Ups):=
  match x,i with
  | .d (.str s),.d (.int _ n)=>cK (decide (0<=n∧n<s.length)) (.d (.int .u8 ((s.getD n.toNat 0).toNat:Nat)))
  |_,_=>M.fail
def jf(P:Program)(len:Nat)(e:TypeId)(x i:RV):M (RV×Ups):=
  match fP x,i,szT P e with
  |some cs,.d (.int _ n),some k=>M.bind (M.cr (decide (0<=n∧n<len)) ()) fun _=>er P e cs (n.toNat*k)
  |_,_,_=>M.fail
def im(P:Program)(t:TypeId)(x i:RV):M (RV×Ups):=
  match P.underlying t with
  |some .string=>jh x i
  |some (.array len e)=>jf P len e x i
  |_=>M.fail
def dn(P:Program)(t:TypeId)(x i:RV):M (RV×Ups):=
  match P.underlying t,i with
  |some (.slice e),.d (.int _ n)=>
    (match szT P e with
     |none=>M.fail
     |some k=>
       match x with
       | .d (.lst es)=>cK (decide (0<=n∧n<es.length)&&((es.getD n.toNat default).cells.length==k)) (.cptr (es.getD n.toNat default).cells)
       | .plit cs=>cK (decide (0<=n∧n<cs.length)&&decide (k=1)) (.pcp (cs.getD n.toNat default))
       | .ref id ver=>M.bind (M.get id) fun
         | .arr a b es=>if ver=a∧e=b then cK (decide (0<=n∧n<es.length)) (.elt id ver n.toNat 0)else M.fail
         | .nest a b _ ess _=>if ver=a∧e=b then cK (decide (0<=n∧n<ess.length)) (.elt id ver n.toNat 0)else M.fail
         | .hole a b es _ _ _=>if ver=a∧e=b then cK (decide (0<=n∧n<es.length)) (.elt id ver n.toNat 0)else M.fail
         | .deep a b es _ _ _ _=>if ver=a∧e=b then cK (decide (0<=n∧n<es.length)) (.elt id ver n.toNat 0)else M.fail
         |_=>M.fail
       | .view id ver f c=>M.bind (M.get id) fun
         | .arr a b es=>if ver=a∧e=b then cK (decide (0<=n∧n<(c:Int)-f∧c<=es.length)) (.elt id ver (f+n.toNat) 0)else M.fail
         |_=>M.fail
       |_=>M.fail)
  |some (.array len e),.d (.int _ n)=>
    (match szT P e with
     |some k=>M.bind (M.cr (decide (0<=n∧n<len)) ()) fun _=>hZ (n.toNat*k) x
     |none=>M.fail)
  |_,_=>M.fail
def bnd(o:Option RV)(a:Int):Option Int:=
  match o with
  |none=>some a
  |some (.d (.int _ n))=>some n
  |_=>none
def cut{α:Type}(l:List α)(a:Nat)(b:Option Nat):List α:=
  match b with
  |none=>l.drop a
  |some h=>(l.drop a).take (h-a)
def hiOf(o:Option RV)(h:Int):Option Nat:=match o with|none=>none|some _=>some h.toNat
def sliceB(P:Program)(e:TypeId)(id ver a b:Nat)(i g:Option RV):M (RV×Ups):=
  match bnd i 0,bnd g ((b:Int)-a),szT P e with
  |some l,some h,some (_+1)=>M.bind (M.get id) fun
    | .arr c f es=>if ver=c∧e=f then cK (decide (a<=b∧b<=es.length∧0<=l∧l<=h∧h<=(b:Int)-a)) (.view id ver (a+l.toNat) (a+h.toNat))else M.fail
    |_=>M.fail
  |_,_,_=>M.fail
def jo(P:Program)(a:Nat)(e:TypeId)(n:Nat)(c b f:Option RV):M (RV×Ups):=
  match bnd c 0,b,f,szT P e with
  |some l,some (.d (.int _ h)),some (.d (.int _ m)),some (_+1)=>
    if l=0∧h=0∧m=0 then M.bind (M.cE a) fun _=>M.cr (decide (0<=n)) (.ref a 0,[(a,.arr 0 e [])])else M.fail
  |_,_,_,_=>M.fail
def dj(P:Program)(e:TypeId)(k:Nat):Nat->List PD->List PD
  |0,_=>[]
  |n+1,cs=>(if cM P e then .agg (cs.take k)else cs.headD default)::dj P e k n (cs.drop k)
def iz(P:Program)(id:Nat)(a:TypeId):M (RV×Ups):=
  match P.underlying a with
  |some (.array n e)=>
    (match szT P e with
     |some (k+1)=>M.bind (M.get id) fun
       | .var cs => (match fQ cs with
         |some b=>if cM P e=true∨k=0 then M.cr (decide (b.length=n*(k+1))&&b.all PD.one) (.d (.lst (dj P e (k+1) n b)),[(id,.dead)])else M.fail
         |none=>M.fail)
       |_=>M.fail
     |_=>M.fail)
  |_=>M.fail
def iB(P:Program)(e:TypeId)(id ver:Nat)(f c:Option RV)(g:RV):M (RV×Ups):=
  match f,c,g,szT P e with
  |none,some (.d (.int _ h)),.d (.int _ m),some (_+1)=>
    if h=m then M.bind (M.get id) fun
      | .arr a b es=>if ver=a∧e=b then M.cr (decide (0<=h∧h<=es.length)) (.fview id ver h.toNat,[])else M.fail
      |_=>M.fail
    else M.fail
  |_,_,_,_=>M.fail
def iA(P:Program)(a:TypeId)(cs:List PD):M (RV×Ups):=
  match P.underlying a with
  |some (.array n e)=>
    (match szT P e with
     |some (k+1)=>if cM P e=true∨k=0 then M.cr (decide (n*(k+1)<=cs.length)&&(cs.take (n*(k+1))).all PD.one) (.d (.lst (dj P e (k+1) n (cs.take (n*(k+1))))),[])else M.fail
     |_=>M.fail)
  |_=>M.fail
def kj(P:Program)(e:TypeId)(es:List PD)(h m:Int):M (RV×Ups):=
  match szT P e with
  |some (_+1)=>if h=m then M.cr (decide (h=es.length)) (.dfull es,[])else M.fail
  |_=>M.fail
def j9(P:Program)(e:TypeId)(es:List PD)(l h m:Int):M (RV×Ups):=
  match szT P e with
  |some k=>if h=m then cK (decide (0<=l∧l<=h∧h<=es.length)&&es.all (fun e=>e.cells.length==k)) (.d (.lst (cut es l.toNat (some h.toNat))))else M.fail
  |none=>M.fail
def kE(P:Program)(t:TypeId)(x:RV)(f c g:Option RV):M (RV×Ups):=
  match P.underlying t,x,f,c,g with
  |some (.slice e),.ref id ver,none,some (.d (.int _ h)),none=>
    (match szT P e with
     |some (_+1)=>M.bind (M.get id) fun
       | .arr a b es=>if ver=a∧e=b then M.cr (decide (0<=h∧h<=es.length)) (.ref id (ver+1),[(id,.arr (ver+1) e (es.take h.toNat))])else M.fail
       |_=>M.fail
     |_=>M.fail)
  |some (.slice e),.d (.lst es),none,some (.d (.int _ h)),some (.d (.int _ m))=>kj P e es h m
  |some (.slice e),.d (.lst es),some (.d (.int _ l)),some (.d (.int _ h)),some (.d (.int _ m))=>j9 P e es l h m
  |_,_,_,_,_=>M.fail
def dx(P:Program)(g:Nat)(t:TypeId)(x:RV)(f c i:Option RV):M (RV×Ups):=
  match P.underlying t,x,i with
  |some (.slice e),.ref id ver,none=>M.bind (M.get id) fun
    | .arr _ _ es=>sliceB P e id ver 0 es.length f c
    |_=>M.fail
  |some (.slice e),.view id ver a b,none=>sliceB P e id ver a b f c
  |some (.array _ _),.ptr id 0,none=>(match f,c with|none,none=>iz P id t|_,_=>M.fail)
  |some (.array _ _),.cptr cs,none=>(match f,c with|none,none=>iA P t cs|_,_=>M.fail)
  | some (.slice e), .cL, none => (match bnd f 0, c, szT P e with
    |some l,some (.d (.int _ h)),some _=>if l=0∧h=0 then M.pure (.cL,[])else M.fail
    |_,_,_=>M.fail)
  |some (.slice e),.d (.lst es),some m=>jo P g e es.length f c (some m)
  |some (.slice e),.ref id ver,some m=>iB P e id ver f c m
  |some .string,.d (.str s),none=>
    (match bnd f 0, bnd c s.length with
     |some l,some h=>cK (decide (0<=l∧l<=h∧h<=s.length)) (.d (.str (cut s l.toNat (hiOf c h))))
     |_,_=>M.fail)
  |some (.slice e),.d (.lst es),none=>
    (match bnd f 0, bnd c es.length, szT P e with
     |some l,some h,some k=>cK (decide (0<=l∧l<=h∧h<=es.length)&&es.all (fun e=>e.cells.length==k)) (.d (.lst (cut es l.toNat (hiOf c h))))
     |_,_,_=>M.fail)
  |_,_,_=>M.fail
def fS(place:Nat->Option (Nat×Nat))(cs:List RV):List (Nat×RV)->Option (List RV)
  | []=>some cs
  |(i,v)::r=>
    match place i with
    |some (off,k)=>if v.cells.length=k∧off+k<=cs.length then fS place (setCells cs off v.cells) r else none
    |none=>none
def lU(P:Program)(a:Array Field)(i:Nat):Option (Nat×Nat):=
  match a[i]? with
  |some f=>(match szT P f.type with|some k=>some (f.offset,k)|none=>none)
  |none=>none
def dG(parts:List (Nat×RV)):Bool:=parts.all fun x=>x.2.sized
def ig(P:Program)(t:TypeId)(parts:List (Nat×RV)):M (RV×Ups):=
  match P.underlying t,df P t with
  |some (.struct a),some z=>
    if a.toList.all fun f=>(szT P f.type).isSome then
      (match fS (lU P a) (cH z).cells parts with
       |some cs=>cK (dG parts) (mD cs)
       |none=>M.fail)
    else M.fail
  |some (.array _ e),some z=>
    (match szT P e with
     | some k => (match fS (fun i => some (i * k, k)) (cH z).cells parts with
       |some cs=>cK (dG parts) (mD cs)
       |none=>M.fail)
     |none=>M.fail)
  |_,_=>M.fail
def dC(P:Program)(mt:Bool)(id:Nat)(t:TypeId)(len:Nat)(parts:List (Nat×RV)):M (RV×Ups):=
  match dm P t with
  |none=>M.fail
  |some e=>
    match szT P e,df P e with
    |some (k+1),some z=>
      if len*(k+1)<=2 ^ 24∧z.cells.size=k+1∧(cM P e=true∨k=0)then
        (match fS (fun i => some (i * (k + 1), k + 1)) (AA len (cH z).cells).flatten parts with
         |some cs=>if(mt&&lq cs)=true then M.cr (dG parts&&decide (k=0)) (.plit cs,[])else M.bind (iq mt cs) fun(a,u)=>
           if mt&& !jQ cs then M.bind (M.cE id) fun _=>M.cr (dG parts&&a.all PD.one) (.ref id 0,u++[(id,.arr 0 e (dj P e (k+1) len a))])
           else M.cr (dG parts&&a.all PD.one) (.d (.lst (dj P e (k+1) len a)),u)
         |none=>M.fail)
      else M.fail
    |_,_=>M.fail
def kF(P:Program)(t:TypeId)(len:Nat)(parts:List (Nat×RV)):M (RV×Ups):=
  match dm P t with
  |none=>M.fail
  |some e=>
    match szT P e,df P e with
    |some (k+1),some z=>
      if len=1∧k+1<=2 ^ 24∧z.cells.size=k+1∧(cM P e=true∨k=0)then
        (match fS (fun i => some (i * (k + 1), k + 1)) (AA len (cH z).cells).flatten parts with
         |some cs=>M.cr (dG parts&&cs.all RV.one) (.rlit cs,[])
         |none=>M.fail)
      else M.fail
    |_,_=>M.fail
def ib(P:Program)(id:Nat)(t:TypeId):M (RV×Ups):=
  match df P t with
  |some z=>M.bind (M.cE id) fun _=>M.pure (.ptr id 0,[(id,.var (cH z).cells)])
  |none=>M.fail
def boxD(id:Nat)(v:RV):M (RV×Ups):=
  M.bind (M.cE id) fun _=>M.cr v.sized (.ptr id 0,[(id,.var v.cells)])
def lenD(P:Program)(t:TypeId)(x:RV):M (RV×Ups):=
  match P.underlying t,x with
  |some .string,.d (.str s)=>cQ (.d (.int .i64 s.length))
  |some (.slice _),.d (.lst es)=>cQ (.d (.int .i64 es.length))
  |some (.slice _),.plit cs=>cQ (.d (.int .i64 cs.length))
  |some (.slice _),.rfn _ _ n=>cQ (.d (.int .i64 n))
  |some (.slice _),.cL=>cQ (.d (.int .i64 0))
  |some (.slice _),.ref id ver=>M.bind (M.get id) fun
    | .arr a _ es=>if ver=a then cQ (.d (.int .i64 es.length))else M.fail
    | .nest a _ _ ess _=>if ver=a then cQ (.d (.int .i64 ess.length))else M.fail
    | .hole a _ es _ _ _=>if ver=a then cQ (.d (.int .i64 es.length))else M.fail
    | .deep a _ es _ _ _ _=>if ver=a then cQ (.d (.int .i64 es.length))else M.fail
    |_=>M.fail
  |some (.slice _),.view id ver c b=>M.bind (M.get id) fun
    | .arr a _ es=>if ver=a then cK (decide (c<=b∧b<=es.length)) (.d (.int .i64 ((b:Int)-c)))else M.fail
    |_=>M.fail
  |some (.map _ _),.ptr id 0=>M.bind (M.get id) fun
    | .map _ _ es=>cQ (.d (.int .i64 es.length))
    |_=>M.fail
  |_,_=>M.fail
def dB(x:RV):M (List PD):=
  match x with
  | .d (.lst es)=>M.pure es
  | .cL=>M.pure []
  | .ref id ver=>M.bind (M.get id) fun
    | .arr a _ es=>if ver=a then M.pure es else M.fail
    |_=>M.fail
  | .view id ver c b=>M.bind (M.get id) fun
    | .arr a _ es=>if ver=a then M.cr (decide (c<=b∧b<=es.length)) ((es.drop c).take (b-c))else M.fail
    |_=>M.fail
  |_=>M.fail
def dstM(x:RV):M (Nat×Nat×TypeId×List PD×Nat×Nat):=
  match x with
  | .ref id ver=>M.bind (M.get id) fun
    | .arr a e es=>if ver=a then M.pure (id,ver,e,es,0,es.length)else M.fail
    |_=>M.fail
  | .view id ver c b=>M.bind (M.get id) fun
    | .arr a e es=>if ver=a then M.cr (decide (c<=b∧b<=es.length)) (id,ver,e,es,c,b-c)else M.fail
    |_=>M.fail
  |_=>M.fail
def jy(P:Program)(t:TypeId)(x y:RV):M (RV×Ups):=
  match dm P t with
  | some e => (match szT P e with
    |some (k+1)=>M.bind (dstM x) fun d=>M.bind (dB y) fun ys=>
      M.cr (decide (e=d.2.2.1)&&ys.all fun c=>c.cells.length==k+1)
        (.d (.int .i64 (Nat.min ys.length d.2.2.2.2.2:Nat)),[(d.1,.arr d.2.1 d.2.2.1 (d.2.2.2.1.take d.2.2.2.2.1++ys.take (Nat.min ys.length d.2.2.2.2.2)++d.2.2.2.1.drop (d.2.2.2.2.1+Nat.min ys.length d.2.2.2.2.2)))])
    |_=>M.fail)
  |none=>M.fail
def minL:Int->List RV->Option Int
  |n,[]=>some n
  |n,.d (.int _ m)::r=>minL (if m<n then m else n) r
  |_,_::_=>none
def maxL:Int->List RV->Option Int
  |n,[]=>some n
  |n,.d (.int _ m)::r=>maxL (if m>n then m else n) r
  |_,_::_=>none
def minD:List RV->M (RV×Ups)
  | .d (.int k n)::r=>(match minL n r with|some m=>M.pure (.d (.int k m),[])|none=>M.fail)
  |_=>M.fail
def maxD:List RV->M (RV×Ups)
  | .d (.int k n)::r=>(match maxL n r with|some m=>M.pure (.d (.int k m),[])|none=>M.fail)
  |_=>M.fail
def iY(v:Value):Option PD:=
  match dW v with
  | .d p=>some p
  | .cL=>some (.lst [])
  |_=>none
def hO:List Value->Option (List PD)
  | []=>some []
  |v::r=>match iY v,hO r with
    |some p,some l=>some (p::l)
    |_,_=>none
def ey:Value->Option PD
  | .agg cs=>(hO cs.toList).map .agg
  |v=>iY v
def gM(P:Program)(t:TypeId)(x:RV):M (RV×Ups):=
  match dm P t with
  | some e => (match szT P e, (df P e).bind ey with
    |some (k+1),some z=>M.bind (dstM x) fun d=>
      M.cr (decide (e=d.2.2.1)&&(z.cells.length==k+1))
        (.tup [],[(d.1,.arr d.2.1 d.2.2.1 (d.2.2.2.1.take d.2.2.2.2.1++AA d.2.2.2.2.2 z++d.2.2.2.1.drop (d.2.2.2.2.1+d.2.2.2.2.2)))])
    |_,_=>M.fail)
  |none=>M.fail
def dZ(P:Program)(id:Nat)(t:TypeId)(l c:RV):M (RV×Ups):=
  match dm P t,l,c with
  |some e,.d (.int _ n),.d (.int _ m)=>
    (match szT P e, dV P e, (df P e).bind ey with
     |some (k+1),some b,some z=>M.bind (M.cE id) fun _=>
       M.cr (decide (n<=m∧0<=n∧m.toNat*b<=140737488355328∧m.toNat<=140737488355328)&&(z.cells.length==k+1)) (.ref id 0,[(id,.arr 0 e (AA n.toNat z))])
     |_,_,_=>M.fail)
  |_,_,_=>M.fail
def jv(P:Program)(id:Nat)(t t':TypeId)(s x:RV):M (RV×Ups):=
  match dm P t,P.underlying t',s,x with
  |some e,some (.int _),.cL,.d (.int _ n)=>
    (match szT P e, dV P e, (df P e).bind ey with
     |some (k+1),some b,some z=>M.bind (M.cE id) fun _=>
       M.cr (decide (0<n∧n.toNat*b<=140737488355328∧n.toNat<=140737488355328)&&(z.cells.length==k+1)) (.ref id 0,[(id,.arr 0 e (AA n.toNat z))])
     |_,_,_=>M.fail)
  |_,_,_,_=>M.fail
def capD(P:Program)(t:TypeId)(x:RV):M (RV×Ups):=
  match P.underlying t,x with
  |some (.slice _),.cL=>cQ (.d (.int .i64 0))
  |_,_=>M.fail
def e9:PD->PD->Option Bool
  | .int k a,.int k' b=>if k=k' then some (a==b)else none
  | .str a,.str b=>some (a==b)
  | .bool a,.bool b=>some (a==b)
  |_,_=>none
def dL:PD->Bool
  | .agg _=>true
  |_=>false
def iO(P:Program)(c:TypeId)(a b:PD):Option Bool:=
  match dL a,dL b with
  |true,true=>jN P 20 c a b
  |false,false=>e9 a b
  |_,_=>none
def cO(P:Program)(a:TypeId)(k:PD):List (PD×PD)->Nat->Option (Option (Nat×PD×PD))
  | [],_=>some none
  |(x,v)::r,i=>
    match iO P a k x with
    |some true=>some (some (i,x,v))
    |some false=>cO P a k r (i+1)
    |none=>none
def eD(P:Program):Nat->TypeId->PD->Bool
  |0,_,_=>false
  |d+1,t,k=>
    match P.underlying t,k with
    |some (.int q),.int b _=>decide (q=b)
    |some .string,.str _=>true
    |some .bool,.bool _=>true
    | some (.struct a), .agg cs => a.toList.all fun f => f.name != "_" && (match fT P f.type cs f.offset with | some p => eD P d f.type p | none => false)
    |_,_=>false
def di(P:Program)(t:TypeId)(k:PD):Bool:=eD P 20 t k
def hJ:PD->PD->Bool
  | .int k a,.int k' b=>decide (k=k')&&decide (a=b)
  | .str a,.str b=>decide (a=b)
  | .bool a,.bool b=>decide (a=b)
  |_,_=>false
def hM:List PD->List PD->Bool
  | [],[]=>true
  |a::r,b::q=>hJ a b&&hM r q
  |_,_=>false
def ix:PD->PD->Bool
  | .agg a,.agg b=>hM a b
  |a,b=>hJ a b
def eS(P:Program)(id:Nat)(t:TypeId):M (RV×Ups):=
  match P.underlying t with
  |some (.map a b)=>M.bind (M.cE id) fun _=>M.pure (.ptr id 0,[(id,.map a b [])])
  |_=>M.fail
def fb(P:Program)(t:TypeId)(x k:RV)(ok:Bool):M (RV×Ups):=
  match P.underlying t,x,k with
  |some (.map a f),.ptr id 0,.d e=>M.bind (M.get id) fun
    | .map b c es=>
      if a=b∧f=c∧di P a e=true then
        (match cO P a e es 0, (df P f).bind ey with
         |some (some (_,_,v)),_=>if ok then cQ (.tup [.d v,.d (.bool true)])else cQ (.d v)
         |some none,some z=>if ok then cQ (.tup [.d z,.d (.bool false)])else cQ (.d z)
         |_,_=>M.fail)
      else M.fail
    |_=>M.fail
  |_,_,_=>M.fail
def gp(P:Program)(t:TypeId)(x k v:RV):M (RV×Ups):=
  match P.underlying t,x,k with
  |some (.map b e),.ptr id 0,.d a=>M.bind (M.get id) fun
    | .map c f es=>
      if b=c∧e=f∧di P b a=true then
        M.bind (eX v) fun(p,u)=>
        match cO P b a es 0 with
        |some (some (i,x,_))=>if(u.map (·.1)).contains id then M.fail else M.cr (ix a x) (.undef,u++[(id,.map b e (es.set i (a,p)))])
        |some none=>if(u.map (·.1)).contains id then M.fail else M.pure (.undef,u++[(id,.map b e (es++[(a,p)]))])
        |none=>M.fail
      else M.fail
    |_=>M.fail
  |_,_,_=>M.fail
def jO(es:List (PD×List PD)):List (PD×PD):=es.map fun x=>(x.1,.lst x.2)
def isZ0:Option Value->Bool
  |some (.slice none 0 0)=>true
  |_=>false
def fq(P:Program)(id:Nat)(t:TypeId):M (RV×Ups):=
  match P.underlying t with
  |some (.map b a)=>
    (match (dm P a).bind fun e2 => (szT P e2).map fun k => (e2, k) with
     |some (e2,_+1)=>M.bind (M.cE id) fun _=>M.pure (.ptr id 0,[(id,.mapn b a e2 [] none)])
     |_=>M.fail)
  |_=>M.fail
def eE(P:Program)(a:Nat)(t:TypeId)(x k:RV):M (RV×Ups):=
  match P.underlying t,x,k with
  |some (.map b e),.ptr id 0,.d c=>M.bind (M.get id) fun
    | .mapn f g e2 es none=>
      if b=f∧e=g∧di P b c=true∧a≠id then
        M.bind (M.cE a) fun _=>
        match cO P b c (jO es) 0 with
        |some (some (i,x,.lst row))=>M.cr (ix c x) (.tup [.ref a 0,.d (.int .i64 i)],[(id,.mapn b e e2 es (some i)),(a,.arr 0 e2 row)])
        |some none=>if isZ0 (df P e)=true then M.pure (.tup [.ref a 0,.d (.int .i64 es.length)],[(id,.mapn b e e2 (es++[(c,[])]) (some es.length)),(a,.arr 0 e2 [])])else M.fail
        |_=>M.fail
      else M.fail
    |_=>M.fail
  |_,_,_=>M.fail
def dE(x a v:RV):M (RV×Ups):=
  match x,a,v with
  | .ptr id 0,.d (.int _ n),.ref k f=>M.bind (M.get id) fun
    | .mapn e g e2 es (some i)=>M.bind (M.get k) fun
      | .arr b c row=>if f=b∧c=e2∧k≠id∧n=i then(match es[i]? with|some (key,_)=>M.pure (.undef,[(k,.dead),(id,.mapn e g e2 (es.set i (key,row)) none)])|none=>M.fail)else M.fail
      |_=>M.fail
    |_=>M.fail
  |_,_,_=>M.fail
def dU(P:Program)(id:Nat)(t t':TypeId)(s x:RV):M (RV×Ups):=
  match dm P t with
  |none=>M.fail
  |some e=>
    match szT P e,dV P e,df P e with
    |some (k+1),some (by_+1),some z=>
      if z.cells.size=k+1∧t=t' then
        M.bind (dB x) fun xs=>
        (match s with
         | .cL=>M.bind (M.cE id) fun _=>
           M.cr (decide (xs.length*(by_+1)<=140737488355328)&&xs.all (fun e=>e.cells.length==k+1)) (.ref id 0,[(id,.arr 0 e xs)])
         | .ref a ver=>M.bind (M.get a) fun
           | .arr b c es=>
             if ver=b∧e=c then
               M.cr (decide ((es.length+xs.length)*(by_+1)<=140737488355328)&&xs.all (fun e=>e.cells.length==k+1)) (.ref a (ver+1),[(a,.arr (ver+1) e (es++xs))])
             else M.fail
           | .nest b c e2 ess none=>
             if ver=b∧e=c∧k=0∧xs.all lP=true then
               M.cr (decide ((ess.length+xs.length)*(by_+1)<=140737488355328)) (.ref a (ver+1),[(a,.nest (ver+1) e e2 (ess++AA xs.length []) none)])
             else M.fail
           |_=>M.fail
         | .fview a ver f=>M.bind (M.get a) fun
           | .arr b c es=>
             if ver=b∧e=c then
               M.cr (decide (f<=es.length∧(f+xs.length)*(by_+1)<=140737488355328)&&xs.all (fun e=>e.cells.length==k+1)) (.d (.lst (es.take f++xs)),[(a,.dead)])
             else M.fail
           |_=>M.fail
         | .dfull es=>M.cr (decide ((es.length+xs.length)*(by_+1)<=140737488355328)&&(xs.all (fun e=>e.cells.length==k+1)&&es.all (fun e=>e.cells.length==k+1))) (.d (.lst (es++xs)),[])
         |_=>M.fail)
      else M.fail
    |_,_,_=>M.fail
def ie(ts:List (Nat×TypeId))(e2:TypeId)(e:Nat):Box->Option (List PD)
  | .arr a b row=>if ts=[]∧e=a∧b=e2 then some row else none
  | .deep a b row q f c none=>if ts=(q,f)::c∧e=a∧b=e2 then some row else none
  |_=>none
def lj(a:Nat)(e2:TypeId)(ts:List (Nat×TypeId))(c:Option RV):M (List PD×Ups):=
  match c with
  |some .cL=>M.pure ([],[])
  |some (.ref k e)=>M.bind (M.get k) fun b=>
    match ie ts e2 e b with
    |some row=>if k≠a then M.pure (row,[(k,.dead)])else M.fail
    |none=>M.fail
  |_=>M.fail
def fk(P:Program)(t t':TypeId)(s:RV)(cs:List RV):M (RV×Ups):=
  match dm P t with
  |none=>M.fail
  |some e=>
    match szT P e,dV P e,df P e,s with
    |some (k+1),some (by_+1),some z,.ref a ver=>
      if z.cells.size=k+1∧t=t' then
        M.bind (M.get a) fun
        | .deep b f es q e2 ts none=>
          if ver=b∧e=f∧cs.length=k+1 then
            M.bind (lj a e2 ts cs[q]?) fun(row,u)=>
            match fQ (cs.set q (.d (.lst row)))with
            |some c=>M.cr (decide ((es.length+1)*(by_+1)<=140737488355328)&&c.all PD.one) (.ref a (ver+1),u++[(a,.deep (ver+1) e (es++[.agg c]) q e2 ts none)])
            |none=>M.fail
          else M.fail
        |_=>M.fail
      else M.fail
    |_,_,_,_=>M.fail
def dI(P:Program)(id:Nat)(t t':TypeId)(s x:RV):M (RV×Ups):=
  match x with
  | .rlit cs=>fk P t t' s cs
  |x=>(match s with| .rfn i q _=>dU P id t t' (.ref i q) x|s=>dU P id t t' s x)
end Go.Dw
