
import Derived.Orders

namespace Go.Dw
theorem za{p:Prop}(h:p:=by omega):p:=h
theorem sm{p:Prop}(h:p:=by simp):p:=h
theorem so{p:Prop}(h:p:=by simp;omega):p:=h
theorem zc{p:Prop}(h:p:=by simp only;omega):p:=h
theorem zd{α β:Type}(a:α)(f:α->Option β):(some a).bind f=f a:=rfl
theorem ze{α:Type}{l:List α}{i:Nat}(h:i<l.length):l[i]? =some l[i]:=List.getElem?_eq_getElem h
inductive PD where
  |bool (b:Bool)
  |int (k:IntKind) (n:Int)
  |str (s:List UInt8)
  |lst (es:List PD)
  |agg (cs:List PD)
  |raw (v:Value)
  deriving Inhabited
inductive RV where
  |d (p:PD)
  |undef
  |junk
  |mA
  |agg (cs:List RV)
  |tup (cs:List RV)
  |ref (id ver:Nat)
  |ptr (id off:Nat)
  |elt (id ver i o:Nat)
  |cptr (cs:List PD)
  |view (id ver lo hi:Nat)
  |clo (f:FuncId) (cs:List RV)
  |fview (id ver hi:Nat)
  |err (ok:Bool)
  |dfull (es:List PD)
  |ifc (t:TypeId) (c:RV)
  deriving Inhabited
inductive Box where
  |var (cs:List RV)
  |arr (ver:Nat) (e:TypeId) (es:List PD)
  |dead
  |map (kt vt:TypeId) (es:List (PD×PD))
  |nest (ver:Nat) (e e2:TypeId) (ess:List (List PD)) (lent:Option (Nat×RV))
  |mapn (kt vt e2:TypeId) (es:List (PD×List PD)) (lent:Option Nat)
  deriving Inhabited
abbrev qh:=Nat->Option Box
abbrev Ups:=List (Nat×Box)
def M(α:Type):Type:=qh->Option (α×List Nat×Bool)
namespace M
def pure{α:Type}(a:α):M α:=fun _=>some (a,[],true)
def bind{α β:Type}(m:M α)(f:α->M β):M β:=fun b=>
  match m b with
  |some (a,r,c)=>
    match f a b with
    |some (x,r',c')=>some (x,r++r',c&&c')
    |none=>none
  |none=>none
def fail{α:Type}:M α:=fun _=>none
def get(id:Nat):M Box:=fun b=>match b id with|some x=>some (x,[id],true)|none=>none
def qc(id:Nat):M Unit:=fun b=>match b id with|some _=>none|none=>some ((),[id],true)
def pR{α:Type}(c:Bool)(a:α):M α:=fun _=>some (a,[],c)
end M
def PD.cells:PD->List PD
  | .agg cs=>cs
  |p=>[p]
def PD.one:PD->Bool
  | .agg _=>false
  |_=>true
def RV.cells:RV->List RV
  | .agg cs=>cs
  | .d (.agg cs)=>cs.map .d
  |v=>[v]
def RV.one:RV->Bool
  | .d p=>p.one
  | .mA| .ref _ _| .ptr _ _| .elt _ _ _ _| .cptr _| .view _ _ _ _| .clo _ _| .fview _ _ _| .err _| .ifc _ _=>true
  |_=>false
def RV.sized(v:RV):Bool:=v.cells.all RV.one
def nil0:PD:= .raw (.slice none 0 0)
def yI:PD->Bool
  | .raw (.slice none 0 0)=>true
  |_=>false
def isNils:RV->Bool
  | .mA=>true
  |_=>false
inductive NC where
  |row (e:TypeId) (es:List PD)
  |val (v:RV)
def ncs(e2:TypeId)(ess:List (List PD)):Option (Nat×RV)->List NC
  |none=>ess.map (.row e2)
  |some (i,rv)=>(ess.map (.row e2)).set i (.val rv)
def vw:List RV->Option (List PD)
  | []=>some []
  | .d p::r=>match vw r with|some l=>some (p::l)|none=>none
  |_=>none
def AL(cs:List RV):RV:=match vw cs with|some l=>.d (.agg l)|none=>.agg cs
def w9:RV->M (PD×Ups)
  | .d p=>M.pure (p,[])
  | .mA=>M.pure (.lst [],[])
  | .ref id ver=>M.bind (M.get id) fun
    | .arr ver' _ es=>if ver=ver' then M.pure (.lst es,[(id,.dead)])else M.fail
    |_=>M.fail
  | .view id ver lo hi=>M.bind (M.get id) fun
    | .arr ver' _ es=>if ver=ver' then M.pR (decide (lo<=hi∧hi<=es.length)) (.lst ((es.drop lo).take (hi-lo)),[(id,.dead)])else M.fail
    |_=>M.fail
  |_=>M.fail
def ud:List RV->M (List PD×Ups)
  | []=>M.pure ([],[])
  |c::r=>M.bind (w9 c) fun(p,u)=>M.bind (ud r) fun(ps,us)=>M.pure (p::ps,u++us)
def ye(cs:List RV):Bool:= !cs.isEmpty&&cs.all isNils
def wz(mt:Bool)(cs:List RV):M (List PD×Ups):=if mt&&ye cs then M.pure (cs.map fun _=>nil0,[])else ud cs
def tv(v:RV):M (PD×Ups):=
  match v with
  | .agg cs=>M.bind (ud cs) fun(ps,u)=>M.pure (.agg ps,u)
  |v=>w9 v
def qv(P:Program)(t:TypeId):Bool:=
  match P.underlying t with
  |some (.struct _)|some (.array _ _)=>true
  |_=>false
def szT(P:Program)(t:TypeId):Option Nat:=(P.info? t).map (·.size)
def rU(P:Program)(t:TypeId):Option Nat:=(P.info? t).map (·.bytes)
def qV(P:Program)(t:TypeId):Option Value:=(P.info? t).bind (·.zero)
def rT(P:Program)(t:TypeId):Option TypeId:=
  match P.underlying t with
  |some (.slice e)=>some e
  |_=>none
def sf:Value->RV
  | .bool b=>.d (.bool b)
  | .int k n=>.d (.int k n)
  | .string s=>.d (.str s.data.toList)
  | .slice none 0 0=>.mA
  | .func (.func f) ⟨[]⟩ ⟨[]⟩=>.d (.raw (.func (.func f) #[] #[]))
  | .nilFunc=>.d (.raw .nilFunc)
  | .nilIface=>.d (.raw .nilIface)
  | .pointer none=>.d (.raw (.pointer none))
  | .map none=>.d (.raw (.map none))
  |_=>.junk
def qC:Value->RV
  | .agg cs=>.agg (cs.toList.map sf)
  |v=>sf v
def andI(k:IntKind)(x y:Int):Int:=k.wrap (((BitVec.ofInt k.bits x &&& BitVec.ofInt k.bits y).toNat:Nat):Int)
def orI(k:IntKind)(x y:Int):Int:=k.wrap (((BitVec.ofInt k.bits x ||| BitVec.ofInt k.bits y).toNat:Nat):Int)
def xorI(k:IntKind)(x y:Int):Int:=k.wrap (((BitVec.ofInt k.bits x ^^^ BitVec.ofInt k.bits y).toNat:Nat):Int)
def zK(k:IntKind)(x y:Int):Int:=k.wrap (((BitVec.ofInt k.bits x &&& ~~~ BitVec.ofInt k.bits y).toNat:Nat):Int)
def shlI(k:IntKind)(x y:Int):Int:=k.wrap (x*2 ^ (min y.toNat k.bits))
def p9(k:IntKind)(x y:Int):Int:=x.fdiv (2 ^ (min y.toNat k.bits))
def xr(op:BinOp)(k:IntKind)(x y:Int):Option (PD×Bool):=
  match op with
  | .add=>some (.int k (k.wrap (x+y)),true)
  | .sub=>some (.int k (k.wrap (x-y)),true)
  | .mul=>some (.int k (k.wrap (x*y)),true)
  | .quo=>some (.int k (k.wrap (x.tdiv y)),y != 0)
  | .rem=>some (.int k (x.tmod y),y != 0)
  | .eql=>some (.bool (x==y),true)
  | .neq=>some (.bool (x != y),true)
  | .lss=>some (.bool (decide (x<y)),true)
  | .leq=>some (.bool (decide (x<=y)),true)
  | .gtr=>some (.bool (decide (x>y)),true)
  | .geq=>some (.bool (decide (x>=y)),true)
  | .and=>some (.int k (andI k x y),true)
  | .or=>some (.int k (orI k x y),true)
  | .xor=>some (.int k (xorI k x y),true)
  | .andNot=>some (.int k (zK k x y),true)
  |_=>none
def Bx(op:BinOp)(x y:List UInt8):Option (PD×Bool):=
  match op with
  | .add=>some (.str (x++y),decide (((x.length+y.length:Nat):Int)<=IntKind.i64.max))
  | .eql=>some (.bool (x==y),true)
  | .neq=>some (.bool !(x==y),true)
  | .lss=>some (.bool (Op.bytesLess x y),true)
  | .leq=>some (.bool (Op.bytesLess x y||x==y),true)
  | .gtr=>some (.bool !(Op.bytesLess x y||x==y),true)
  | .geq=>some (.bool !(Op.bytesLess x y),true)
  |_=>none
def yt(op:BinOp)(x y:RV):Option (PD×Bool):=
  match x,y with
  | .d (.int k a),.d (.int k' b)=>(match op with| .shl=>some (.int k (shlI k a b),decide (0<=b))| .shr=>some (.int k (p9 k a b),decide (0<=b))|op=>if k=k' then xr op k a b else none)
  | .d (.str a),.d (.str b)=>Bx op a b
  |_,_=>none
def ve(o:Option (PD×Bool)):M (RV×Ups):=match o with|some (p,c)=>M.pR c (.d p,[])|none=>M.fail
def qI(v:RV):M (RV×Ups):=M.pure (v,[])
def ql(c:Bool)(v:RV):M (RV×Ups):=M.pR c (v,[])
def tB(P:Program)(t:TypeId):Option (Bool×Nat):=
  match P.underlying t,szT P t with
  |some _,some n=>some (qv P t,n)
  |_,_=>none
def tw(P:Program)(t:TypeId)(cs:List PD):M (RV×Ups):=
  match tB P t with
  |none=>M.fail
  |some (true,n)=>ql (decide (n<=cs.length)) (.d (.agg (cs.take n)))
  |some (false,_)=>match cs with|c::_=>qI (.d c)| []=>M.fail
def sI(P:Program)(t:TypeId)(cs:List RV)(off:Nat):M (RV×Ups):=
  match tB P t with
  |none=>M.fail
  |some (true,n)=>ql (decide (off+n<=cs.length)) (AL ((cs.drop off).take n))
  |some (false,_)=>match cs[off]? with|some c=>qI c|none=>M.fail
def uC(P:Program)(t:TypeId)(cs:List PD)(off:Nat):Option PD:=
  match tB P t with
  |some (true,n)=>if off+n<=cs.length then some (.agg ((cs.drop off).take n))else none
  |some (false,_)=>cs[off]?
  |none=>none
def eqFs(P:Program)(rec:TypeId->PD->PD->Option Bool)(xs ys:List PD):List Field->Option Bool
  | []=>some true
  |f::r=>
    if f.name = "_" then none else
    match uC P f.type xs f.offset,uC P f.type ys f.offset with
    |some a,some b=>(match rec f.type a b,eqFs P rec xs ys r with|some p,some q=>some (p&&q)|_,_=>none)
    |_,_=>none
def zw(P:Program)(rec:PD->PD->Option Bool)(e:TypeId)(k:Nat)(xs ys:List PD):List Nat->Option Bool
  | []=>some true
  |i::r=>
    match uC P e xs (i*k),uC P e ys (i*k)with
    |some a,some b=>(match rec a b,zw P rec e k xs ys r with|some p,some q=>some (p&&q)|_,_=>none)
    |_,_=>none
def xZ(P:Program):Nat->TypeId->PD->PD->Option Bool
  |0,_,_,_=>none
  |d+1,t,x,y=>
    match P.underlying t,x,y with
    |some .bool,.bool a,.bool b=>some (a==b)
    |some (.int _),.int k a,.int k' b=>if k=k' then some (a==b)else none
    |some .string,.str a,.str b=>some (a==b)
    |some (.struct fs),.agg xs,.agg ys=>if P.stoodInHeld t then none else eqFs P (xZ P d) xs ys fs.toList
    |some (.array n e),.agg xs,.agg ys=>(match P.info? e with|some _=>zw P (xZ P d e) e (P.cellsOf e) xs ys (List.range n)|none=>none)
    |_,_,_=>none
def eqOp(P:Program)(op:BinOp)(t:TypeId)(x y:RV):Option (PD×Bool):=
  match op,x,y with
  | .eql,.d (.bool a),.d (.bool b)=>(match xZ P 1 t (.bool a) (.bool b)with|some r=>some (.bool r,true)|none=>none)
  | .neq,.d (.bool a),.d (.bool b)=>(match xZ P 1 t (.bool a) (.bool b)with|some r=>some (.bool !r,true)|none=>none)
  | .eql,.d (.agg a),.d (.agg b)=>if P.eqGuardType P.depth t then none else(match xZ P 20 t (.agg a) (.agg b)with|some r=>some (.bool r,true)|none=>none)
  | .neq,.d (.agg a),.d (.agg b)=>if P.eqGuardType P.depth t then none else(match xZ P 20 t (.agg a) (.agg b)with|some r=>some (.bool !r,true)|none=>none)
  | .eql,.d (.lst es),.mA=>(match P.underlying t with|some (.slice _)=>some (.bool false, !es.isEmpty)|_=>none)
  | .neq,.d (.lst es),.mA=>(match P.underlying t with|some (.slice _)=>some (.bool true, !es.isEmpty)|_=>none)
  | .eql,.mA,.mA=>(match P.underlying t with|some (.slice _)=>some (.bool true,true)|_=>none)
  | .neq,.mA,.mA=>(match P.underlying t with|some (.slice _)=>some (.bool false,true)|_=>none)
  |_,_,_=>none
def wc(P:Program)(op:BinOp)(t:TypeId)(x y:RV):Option (PD×Bool):=
  match yt op x y with
  |some r=>some r
  |none=>eqOp P op t x y
def isC:Operand->Bool
  | .const _=>true
  |_=>false
def Bg(P:Program)(op:BinOp)(t:TypeId)(c:Bool)(a b:RV):Option (PD×Bool):=
  match P.underlying t,op,a,b with
  |some (.interface _),.eql,.err b,.d (.raw .nilIface)=>some (.bool b,c|| !b)
  |some (.interface _),.neq,.err b,.d (.raw .nilIface)=>some (.bool !b,c|| !b)
  |some (.interface _),.eql,.d (.raw .nilIface),.d (.raw .nilIface)=>some (.bool true,c)
  |some (.interface _),.neq,.d (.raw .nilIface),.d (.raw .nilIface)=>some (.bool false,c)
  |_,_,_,_=>none
def binX(P:Program)(op:BinOp)(t:TypeId)(x y:Operand)(a b:RV):Option (PD×Bool):=
  match wc P op t a b with
  |some r=>some r
  |none=>Bg P op t (isC x||isC y) a b
def tC(P:Program)(t:TypeId)(a:RV):M (RV×Ups):=
  match a with
  | .cptr cs=>tw P t cs
  | .ptr id off=>M.bind (M.get id) fun
    | .var cs=>sI P t cs off
    |_=>M.fail
  | .elt id ver i o=>M.bind (M.get id) fun
    | .arr ver' _ es=>
      if ver=ver' then(match es[i]? with|some e=>tw P t (e.cells.drop o)|none=>M.fail)
      else M.fail
    | .nest ver' _ _ _ (some (j,rv))=>if ver=ver'∧i=j∧o=0 then(match tB P t with|some (false,_)=>qI rv|_=>M.fail)else M.fail
    |_=>M.fail
  |_=>M.fail
def setCells(cs:List RV)(off:Nat):List RV->List RV
  | []=>cs
  |v::r=>setCells (cs.set off v) (off+1) r
def tc(cs:List PD)(off:Nat):List PD->List PD
  | []=>cs
  |v::r=>tc (cs.set off v) (off+1) r
def PD.put(e:PD)(o:Nat)(vs:List PD):PD:=
  match e with
  | .agg cs=>.agg (tc cs o vs)
  |e=>vs.headD e
def uq(P:Program)(t:TypeId)(a v:RV):M (RV×Ups):=
  match szT P t with
  |none=>M.fail
  |some n=>
    match a with
    | .ptr id off=>M.bind (M.get id) fun
      | .var cs=>M.pR (v.sized&&decide (v.cells.length=n∧off+n<=cs.length)) (.undef,[(id,.var (setCells cs off v.cells))])
      |_=>M.fail
    | .elt id ver i o=>M.bind (M.get id) fun
      | .arr ver' e es=>
        if ver=ver' then
          M.bind (tv v) fun(p,u)=>
          match es[i]? with
          |some x=>if(u.map (·.1)).contains id then M.fail else M.pR (v.sized&&decide (p.cells.length=n∧o+n<=x.cells.length)) (.undef,u++[(id,.arr ver' e (es.set i (x.put o p.cells)))])
          |none=>M.fail
        else M.fail
      | .nest ver' e e2 ess h=>if ver=ver'∧o=0∧n=1 then M.pR (v.one&&decide (i<ess.length)&&(match h with|some (j,_)=>decide (i=j)|none=>true)) (.undef,[(id,.nest ver' e e2 ess (some (i,v)))])else M.fail
      |_=>M.fail
    |_=>M.fail
def uB(P:Program)(t:TypeId)(f:Nat):Option (Nat×TypeId):=
  match P.underlying t with
  |some (.struct fs)=>(match fs[f]? with|some x=>some (x.offset,x.type)|none=>none)
  |_=>none
def wj(off:Nat)(x:RV):M (RV×Ups):=
  match x with
  | .ptr id o=>M.bind (M.get id) fun
    | .var _=>qI (.ptr id (o+off))
    |_=>M.fail
  | .elt id ver i o=>M.bind (M.get id) fun
    | .arr ver' _ _=>if ver=ver' then qI (.elt id ver i (o+off))else M.fail
    |_=>M.fail
  | .cptr cs=>qI (.cptr (cs.drop off))
  |_=>M.fail
def sg(P:Program)(t:TypeId)(x:RV)(f:Nat):M (RV×Ups):=
  match uB P t f with
  |none=>M.fail
  |some (off,ft)=>
    match szT P ft with
    |some (_+1)=>wj off x
    |_=>M.fail
def uv:RV->Option (List RV)
  | .agg cs=>some cs
  | .d (.agg cs)=>some (cs.map .d)
  |_=>none
def wu(P:Program)(t:TypeId)(x:RV)(f:Nat):M (RV×Ups):=
  match uB P t f,uv x with
  |some (off,ft),some cs=>sI P ft cs off
  |_,_=>M.fail
def wy(x i:RV):M (RV×Ups):=
  match x,i with
  | .d (.str s),.d (.int _ n)=>ql (decide (0<=n∧n<s.length)) (.d (.int .u8 ((s.getD n.toNat 0).toNat:Nat)))
  |_,_=>M.fail
def xn(P:Program)(len:Nat)(e:TypeId)(x i:RV):M (RV×Ups):=
  match uv x,i,szT P e with
  |some cs,.d (.int _ n),some k=>M.bind (M.pR (decide (0<=n∧n<len)) ()) fun _=>sI P e cs (n.toNat*k)
  |_,_,_=>M.fail
def vF(P:Program)(t:TypeId)(x i:RV):M (RV×Ups):=
  match P.underlying t with
  |some .string=>wy x i
  |some (.array len e)=>xn P len e x i
  |_=>M.fail
def qN(P:Program)(t:TypeId)(x i:RV):M (RV×Ups):=
  match P.underlying t,i with
  |some (.slice e),.d (.int _ n)=>
    (match szT P e with
     |none=>M.fail
     |some k=>
       match x with
       | .d (.lst es)=>ql (decide (0<=n∧n<es.length)&&((es.getD n.toNat default).cells.length==k)) (.cptr (es.getD n.toNat default).cells)
       | .ref id ver=>M.bind (M.get id) fun
         | .arr ver' e' es=>if ver=ver'∧e=e' then ql (decide (0<=n∧n<es.length)) (.elt id ver n.toNat 0)else M.fail
         | .nest ver' e' _ ess _=>if ver=ver'∧e=e' then ql (decide (0<=n∧n<ess.length)) (.elt id ver n.toNat 0)else M.fail
         |_=>M.fail
       | .view id ver lo hi=>M.bind (M.get id) fun
         | .arr ver' e' es=>if ver=ver'∧e=e' then ql (decide (0<=n∧n<(hi:Int)-lo∧hi<=es.length)) (.elt id ver (lo+n.toNat) 0)else M.fail
         |_=>M.fail
       |_=>M.fail)
  |some (.array len e),.d (.int _ n)=>
    (match szT P e with
     |some k=>M.bind (M.pR (decide (0<=n∧n<len)) ()) fun _=>wj (n.toNat*k) x
     |none=>M.fail)
  |_,_=>M.fail
def bnd(o:Option RV)(dflt:Int):Option Int:=
  match o with
  |none=>some dflt
  |some (.d (.int _ n))=>some n
  |_=>none
def cut{α:Type}(l:List α)(lo:Nat)(hi:Option Nat):List α:=
  match hi with
  |none=>l.drop lo
  |some h=>(l.drop lo).take (h-lo)
def hiOf(o:Option RV)(h:Int):Option Nat:=match o with|none=>none|some _=>some h.toNat
def sliceB(P:Program)(e:TypeId)(id ver a b:Nat)(lo hi:Option RV):M (RV×Ups):=
  match bnd lo 0,bnd hi ((b:Int)-a),szT P e with
  |some l,some h,some (_+1)=>M.bind (M.get id) fun
    | .arr ver' e' es=>if ver=ver'∧e=e' then ql (decide (a<=b∧b<=es.length∧0<=l∧l<=h∧h<=(b:Int)-a)) (.view id ver (a+l.toNat) (a+h.toNat))else M.fail
    |_=>M.fail
  |_,_,_=>M.fail
def xE(P:Program)(nid:Nat)(e:TypeId)(n:Nat)(lo hi mx:Option RV):M (RV×Ups):=
  match bnd lo 0,hi,mx,szT P e with
  |some l,some (.d (.int _ h)),some (.d (.int _ m)),some (_+1)=>
    if l=0∧h=0∧m=0 then M.bind (M.qc nid) fun _=>M.pR (decide (0<=n)) (.ref nid 0,[(nid,.arr 0 e [])])else M.fail
  |_,_,_,_=>M.fail
def rf(P:Program)(e:TypeId)(k:Nat):Nat->List PD->List PD
  |0,_=>[]
  |n+1,cs=>(if qv P e then .agg (cs.take k)else cs.headD default)::rf P e k n (cs.drop k)
def wF(P:Program)(id:Nat)(a:TypeId):M (RV×Ups):=
  match P.underlying a with
  |some (.array n e)=>
    (match szT P e with
     |some (k+1)=>M.bind (M.get id) fun
       | .var cs => (match vw cs with
         |some ps=>if qv P e=true∨k=0 then M.pR (decide (ps.length=n*(k+1))&&ps.all PD.one) (.d (.lst (rf P e (k+1) n ps)),[(id,.dead)])else M.fail
         |none=>M.fail)
       |_=>M.fail
     |_=>M.fail)
  |_=>M.fail
def wH(P:Program)(e:TypeId)(id ver:Nat)(lo hi:Option RV)(mx:RV):M (RV×Ups):=
  match lo,hi,mx,szT P e with
  |none,some (.d (.int _ h)),.d (.int _ m),some (_+1)=>
    if h=m then M.bind (M.get id) fun
      | .arr ver' e' es=>if ver=ver'∧e=e' then M.pR (decide (0<=h∧h<=es.length)) (.fview id ver h.toNat,[])else M.fail
      |_=>M.fail
    else M.fail
  |_,_,_,_=>M.fail
def wG(P:Program)(a:TypeId)(cs:List PD):M (RV×Ups):=
  match P.underlying a with
  |some (.array n e)=>
    (match szT P e with
     |some (k+1)=>if qv P e=true∨k=0 then M.pR (decide (n*(k+1)<=cs.length)&&(cs.take (n*(k+1))).all PD.one) (.d (.lst (rf P e (k+1) n (cs.take (n*(k+1))))),[])else M.fail
     |_=>M.fail)
  |_=>M.fail
def yH(P:Program)(e:TypeId)(es:List PD)(h m:Int):M (RV×Ups):=
  match szT P e with
  |some (_+1)=>if h=m then M.pR (decide (h=es.length)) (.dfull es,[])else M.fail
  |_=>M.fail
def xX(P:Program)(t:TypeId)(x:RV)(lo hi mx:Option RV):M (RV×Ups):=
  match P.underlying t,x,lo,hi,mx with
  |some (.slice e),.ref id ver,none,some (.d (.int _ h)),none=>
    (match szT P e with
     |some (_+1)=>M.bind (M.get id) fun
       | .arr ver' e' es=>if ver=ver'∧e=e' then M.pR (decide (0<=h∧h<=es.length)) (.ref id (ver+1),[(id,.arr (ver+1) e (es.take h.toNat))])else M.fail
       |_=>M.fail
     |_=>M.fail)
  |some (.slice e),.d (.lst es),none,some (.d (.int _ h)),some (.d (.int _ m))=>yH P e es h m
  |_,_,_,_,_=>M.fail
def rp(P:Program)(nid:Nat)(t:TypeId)(x:RV)(lo hi mx:Option RV):M (RV×Ups):=
  match P.underlying t,x,mx with
  |some (.slice e),.ref id ver,none=>M.bind (M.get id) fun
    | .arr _ _ es=>sliceB P e id ver 0 es.length lo hi
    |_=>M.fail
  |some (.slice e),.view id ver a b,none=>sliceB P e id ver a b lo hi
  |some (.array _ _),.ptr id 0,none=>(match lo,hi with|none,none=>wF P id t|_,_=>M.fail)
  |some (.array _ _),.cptr cs,none=>(match lo,hi with|none,none=>wG P t cs|_,_=>M.fail)
  | some (.slice e), .mA, none => (match bnd lo 0, hi, szT P e with
    |some l,some (.d (.int _ h)),some _=>if l=0∧h=0 then M.pure (.mA,[])else M.fail
    |_,_,_=>M.fail)
  |some (.slice e),.d (.lst es),some m=>xE P nid e es.length lo hi (some m)
  |some (.slice e),.ref id ver,some m=>wH P e id ver lo hi m
  |some .string,.d (.str s),none=>
    (match bnd lo 0, bnd hi s.length with
     |some l,some h=>ql (decide (0<=l∧l<=h∧h<=s.length)) (.d (.str (cut s l.toNat (hiOf hi h))))
     |_,_=>M.fail)
  |some (.slice e),.d (.lst es),none=>
    (match bnd lo 0, bnd hi es.length, szT P e with
     |some l,some h,some k=>ql (decide (0<=l∧l<=h∧h<=es.length)&&es.all (fun e=>e.cells.length==k)) (.d (.lst (cut es l.toNat (hiOf hi h))))
     |_,_,_=>M.fail)
  |_,_,_=>M.fail
def wi(place:Nat->Option (Nat×Nat))(cs:List RV):List (Nat×RV)->Option (List RV)
  | []=>some cs
  |(i,v)::r=>
    match place i with
    |some (off,k)=>if v.cells.length=k∧off+k<=cs.length then wi place (setCells cs off v.cells) r else none
    |none=>none
def Ab(P:Program)(fs:Array Field)(i:Nat):Option (Nat×Nat):=
  match fs[i]? with
  |some f=>(match szT P f.type with|some k=>some (f.offset,k)|none=>none)
  |none=>none
def tu(parts:List (Nat×RV)):Bool:=parts.all fun x=>x.2.sized
def wq(P:Program)(t:TypeId)(parts:List (Nat×RV)):M (RV×Ups):=
  match P.underlying t,qV P t with
  |some (.struct fs),some z=>
    if fs.toList.all fun f=>(szT P f.type).isSome then
      (match wi (Ab P fs) (qC z).cells parts with
       |some cs=>ql (tu parts) (AL cs)
       |none=>M.fail)
    else M.fail
  |some (.array _ e),some z=>
    (match szT P e with
     | some k => (match wi (fun i => some (i * k, k)) (qC z).cells parts with
       |some cs=>ql (tu parts) (AL cs)
       |none=>M.fail)
     |none=>M.fail)
  |_,_=>M.fail
def rH(P:Program)(mt:Bool)(id:Nat)(t:TypeId)(len:Nat)(parts:List (Nat×RV)):M (RV×Ups):=
  match rT P t with
  |none=>M.fail
  |some e=>
    match szT P e,qV P e with
    |some (k+1),some z=>
      if len*(k+1)<=2 ^ 24∧z.cells.size=k+1∧(qv P e=true∨k=0)then
        (match wi (fun i => some (i * (k + 1), k + 1)) (List.replicate len (qC z).cells).flatten parts with
         |some cs=>M.bind (wz mt cs) fun(ps,u)=>
           if mt&& !ye cs then M.bind (M.qc id) fun _=>M.pR (tu parts&&ps.all PD.one) (.ref id 0,u++[(id,.arr 0 e (rf P e (k+1) len ps))])
           else M.pR (tu parts&&ps.all PD.one) (.d (.lst (rf P e (k+1) len ps)),u)
         |none=>M.fail)
      else M.fail
    |_,_=>M.fail
def wm(P:Program)(id:Nat)(t:TypeId):M (RV×Ups):=
  match qV P t with
  |some z=>M.bind (M.qc id) fun _=>M.pure (.ptr id 0,[(id,.var (qC z).cells)])
  |none=>M.fail
def boxD(id:Nat)(v:RV):M (RV×Ups):=
  M.bind (M.qc id) fun _=>M.pR v.sized (.ptr id 0,[(id,.var v.cells)])
def xu(P:Program)(t:TypeId)(x:RV):M (RV×Ups):=
  match P.underlying t,x with
  |some .string,.d (.str s)=>qI (.d (.int .i64 s.length))
  |some (.slice _),.d (.lst es)=>qI (.d (.int .i64 es.length))
  |some (.slice _),.mA=>qI (.d (.int .i64 0))
  |some (.slice _),.ref id ver=>M.bind (M.get id) fun
    | .arr ver' _ es=>if ver=ver' then qI (.d (.int .i64 es.length))else M.fail
    | .nest ver' _ _ ess _=>if ver=ver' then qI (.d (.int .i64 ess.length))else M.fail
    |_=>M.fail
  |some (.slice _),.view id ver lo hi=>M.bind (M.get id) fun
    | .arr ver' _ es=>if ver=ver' then ql (decide (lo<=hi∧hi<=es.length)) (.d (.int .i64 ((hi:Int)-lo)))else M.fail
    |_=>M.fail
  |some (.map _ _),.ptr id 0=>M.bind (M.get id) fun
    | .map _ _ es=>qI (.d (.int .i64 es.length))
    |_=>M.fail
  |_,_=>M.fail
def su(x:RV):M (List PD):=
  match x with
  | .d (.lst es)=>M.pure es
  | .mA=>M.pure []
  | .ref id ver=>M.bind (M.get id) fun
    | .arr ver' _ es=>if ver=ver' then M.pure es else M.fail
    |_=>M.fail
  | .view id ver lo hi=>M.bind (M.get id) fun
    | .arr ver' _ es=>if ver=ver' then M.pR (decide (lo<=hi∧hi<=es.length)) ((es.drop lo).take (hi-lo))else M.fail
    |_=>M.fail
  |_=>M.fail
def dstM(x:RV):M (Nat×Nat×TypeId×List PD×Nat×Nat):=
  match x with
  | .ref id ver=>M.bind (M.get id) fun
    | .arr ver' e es=>if ver=ver' then M.pure (id,ver,e,es,0,es.length)else M.fail
    |_=>M.fail
  | .view id ver lo hi=>M.bind (M.get id) fun
    | .arr ver' e es=>if ver=ver' then M.pR (decide (lo<=hi∧hi<=es.length)) (id,ver,e,es,lo,hi-lo)else M.fail
    |_=>M.fail
  |_=>M.fail
def minL:Int->List RV->Option Int
  |n,[]=>some n
  |n,.d (.int _ m)::r=>minL (if m<n then m else n) r
  |_,_::_=>none
def maxL:Int->List RV->Option Int
  |n,[]=>some n
  |n,.d (.int _ m)::r=>maxL (if m>n then m else n) r
  |_,_::_=>none
def minD:List RV->M (RV×Ups)
  | .d (.int k n)::r=>(match minL n r with|some m=>M.pure (.d (.int k m),[])|none=>M.fail)
  |_=>M.fail
def maxD:List RV->M (RV×Ups)
  | .d (.int k n)::r=>(match maxL n r with|some m=>M.pure (.d (.int k m),[])|none=>M.fail)
  |_=>M.fail
def xf(v:Value):Option PD:=
  match sf v with
  | .d p=>some p
  | .mA=>some (.lst [])
  |_=>none
def wb:List Value->Option (List PD)
  | []=>some []
  |v::r=>match xf v,wb r with
    |some p,some l=>some (p::l)
    |_,_=>none
def rD:Value->Option PD
  | .agg cs=>(wb cs.toList).map .agg
  |v=>xf v
def uh(P:Program)(t:TypeId)(x:RV):M (RV×Ups):=
  match rT P t with
  | some e => (match szT P e, (qV P e).bind rD with
    |some (k+1),some z=>M.bind (dstM x) fun d=>
      M.pR (decide (e=d.2.2.1)&&(z.cells.length==k+1))
        (.tup [],[(d.1,.arr d.2.1 d.2.2.1 (d.2.2.2.1.take d.2.2.2.2.1++List.replicate d.2.2.2.2.2 z++d.2.2.2.1.drop (d.2.2.2.2.1+d.2.2.2.2.2)))])
    |_,_=>M.fail)
  |none=>M.fail
def rn(P:Program)(id:Nat)(t:TypeId)(l c:RV):M (RV×Ups):=
  match rT P t,l,c with
  |some e,.d (.int _ n),.d (.int _ m)=>
    (match szT P e, rU P e, (qV P e).bind rD with
     |some (k+1),some b,some z=>M.bind (M.qc id) fun _=>
       M.pR (decide (n<=m∧0<=n∧m.toNat*b<=140737488355328∧m.toNat<=140737488355328)&&(z.cells.length==k+1)) (.ref id 0,[(id,.arr 0 e (List.replicate n.toNat z))])
     |_,_,_=>M.fail)
  |_,_,_=>M.fail
def xI(P:Program)(id:Nat)(t t':TypeId)(s x:RV):M (RV×Ups):=
  match rT P t,P.underlying t',s,x with
  |some e,some (.int _),.mA,.d (.int _ n)=>
    (match szT P e, rU P e, (qV P e).bind rD with
     |some (k+1),some b,some z=>M.bind (M.qc id) fun _=>
       M.pR (decide (0<n∧n.toNat*b<=140737488355328∧n.toNat<=140737488355328)&&(z.cells.length==k+1)) (.ref id 0,[(id,.arr 0 e (List.replicate n.toNat z))])
     |_,_,_=>M.fail)
  |_,_,_,_=>M.fail
def capD(P:Program)(t:TypeId)(x:RV):M (RV×Ups):=
  match P.underlying t,x with
  |some (.slice _),.mA=>qI (.d (.int .i64 0))
  |_,_=>M.fail
def tE:PD->PD->Option Bool
  | .int k a,.int k' b=>if k=k' then some (a==b)else none
  | .str a,.str b=>some (a==b)
  | .bool a,.bool b=>some (a==b)
  |_,_=>none
def rV:PD->Bool
  | .agg _=>true
  |_=>false
def w3(P:Program)(kt:TypeId)(a b:PD):Option Bool:=
  match rV a,rV b with
  |true,true=>xZ P 20 kt a b
  |false,false=>tE a b
  |_,_=>none
def qn(P:Program)(kt:TypeId)(k:PD):List (PD×PD)->Nat->Option (Option (Nat×PD×PD))
  | [],_=>some none
  |(x,v)::r,i=>
    match w3 P kt k x with
    |some true=>some (some (i,x,v))
    |some false=>qn P kt k r (i+1)
    |none=>none
def sY(P:Program):Nat->TypeId->PD->Bool
  |0,_,_=>false
  |d+1,t,k=>
    match P.underlying t,k with
    |some (.int q),.int q' _=>decide (q=q')
    |some .string,.str _=>true
    |some .bool,.bool _=>true
    | some (.struct fs), .agg cs => fs.toList.all fun f => f.name != "_" && (match uC P f.type cs f.offset with | some p => sY P d f.type p | none => false)
    |_,_=>false
def qZ(P:Program)(t:TypeId)(k:PD):Bool:=sY P 20 t k
def v7:PD->PD->Bool
  | .int k a,.int k' b=>decide (k=k')&&decide (a=b)
  | .str a,.str b=>decide (a=b)
  | .bool a,.bool b=>decide (a=b)
  |_,_=>false
def v8:List PD->List PD->Bool
  | [],[]=>true
  |a::r,b::q=>v7 a b&&v8 r q
  |_,_=>false
def wD:PD->PD->Bool
  | .agg a,.agg b=>v8 a b
  |a,b=>v7 a b
def tp(P:Program)(id:Nat)(t:TypeId):M (RV×Ups):=
  match P.underlying t with
  |some (.map kt vt)=>M.bind (M.qc id) fun _=>M.pure (.ptr id 0,[(id,.map kt vt [])])
  |_=>M.fail
def tF(P:Program)(t:TypeId)(x k:RV)(ok:Bool):M (RV×Ups):=
  match P.underlying t,x,k with
  |some (.map kt vt),.ptr id 0,.d kp=>M.bind (M.get id) fun
    | .map kt' vt' es=>
      if kt=kt'∧vt=vt'∧qZ P kt kp=true then
        (match qn P kt kp es 0, (qV P vt).bind rD with
         |some (some (_,_,v)),_=>if ok then qI (.tup [.d v,.d (.bool true)])else qI (.d v)
         |some none,some z=>if ok then qI (.tup [.d z,.d (.bool false)])else qI (.d z)
         |_,_=>M.fail)
      else M.fail
    |_=>M.fail
  |_,_,_=>M.fail
def uX(P:Program)(t:TypeId)(x k v:RV):M (RV×Ups):=
  match P.underlying t,x,k with
  |some (.map kt vt),.ptr id 0,.d kp=>M.bind (M.get id) fun
    | .map kt' vt' es=>
      if kt=kt'∧vt=vt'∧qZ P kt kp=true then
        M.bind (tv v) fun(p,u)=>
        match qn P kt kp es 0 with
        |some (some (i,x,_))=>if(u.map (·.1)).contains id then M.fail else M.pR (wD kp x) (.undef,u++[(id,.map kt vt (es.set i (kp,p)))])
        |some none=>if(u.map (·.1)).contains id then M.fail else M.pure (.undef,u++[(id,.map kt vt (es++[(kp,p)]))])
        |none=>M.fail
      else M.fail
    |_=>M.fail
  |_,_,_=>M.fail
def ya(es:List (PD×List PD)):List (PD×PD):=es.map fun x=>(x.1,.lst x.2)
def isZ0:Option Value->Bool
  |some (.slice none 0 0)=>true
  |_=>false
def tO(P:Program)(id:Nat)(t:TypeId):M (RV×Ups):=
  match P.underlying t with
  |some (.map kt vt)=>
    (match (rT P vt).bind fun e2 => (szT P e2).map fun k => (e2, k) with
     |some (e2,_+1)=>M.bind (M.qc id) fun _=>M.pure (.ptr id 0,[(id,.mapn kt vt e2 [] none)])
     |_=>M.fail)
  |_=>M.fail
def sZ(P:Program)(nid:Nat)(t:TypeId)(x k:RV):M (RV×Ups):=
  match P.underlying t,x,k with
  |some (.map kt vt),.ptr id 0,.d kp=>M.bind (M.get id) fun
    | .mapn kt' vt' e2 es none=>
      if kt=kt'∧vt=vt'∧qZ P kt kp=true∧nid≠id then
        M.bind (M.qc nid) fun _=>
        match qn P kt kp (ya es) 0 with
        |some (some (i,x,.lst row))=>M.pR (wD kp x) (.tup [.ref nid 0,.d (.int .i64 i)],[(id,.mapn kt vt e2 es (some i)),(nid,.arr 0 e2 row)])
        |some none=>if isZ0 (qV P vt)=true then M.pure (.tup [.ref nid 0,.d (.int .i64 es.length)],[(id,.mapn kt vt e2 (es++[(kp,[])]) (some es.length)),(nid,.arr 0 e2 [])])else M.fail
        |_=>M.fail
      else M.fail
    |_=>M.fail
  |_,_,_=>M.fail
def rJ(x stamp v:RV):M (RV×Ups):=
  match x,stamp,v with
  | .ptr id 0,.d (.int _ n),.ref k kv=>M.bind (M.get id) fun
    | .mapn kt vt e2 es (some i)=>M.bind (M.get k) fun
      | .arr kv' e' row=>if kv=kv'∧e'=e2∧k≠id∧n=i then(match es[i]? with|some (key,_)=>M.pure (.undef,[(k,.dead),(id,.mapn kt vt e2 (es.set i (key,row)) none)])|none=>M.fail)else M.fail
      |_=>M.fail
    |_=>M.fail
  |_,_,_=>M.fail
def rm(P:Program)(id:Nat)(t t':TypeId)(s x:RV):M (RV×Ups):=
  match rT P t with
  |none=>M.fail
  |some e=>
    match szT P e,rU P e,qV P e with
    |some (k+1),some (by_+1),some z=>
      if z.cells.size=k+1∧t=t' then
        M.bind (su x) fun xs=>
        (match s with
         | .mA=>M.bind (M.qc id) fun _=>
           M.pR (decide (xs.length*(by_+1)<=140737488355328)&&xs.all (fun e=>e.cells.length==k+1)) (.ref id 0,[(id,.arr 0 e xs)])
         | .ref id0 ver=>M.bind (M.get id0) fun
           | .arr ver' e' es=>
             if ver=ver'∧e=e' then
               M.pR (decide ((es.length+xs.length)*(by_+1)<=140737488355328)&&xs.all (fun e=>e.cells.length==k+1)) (.ref id0 (ver+1),[(id0,.arr (ver+1) e (es++xs))])
             else M.fail
           | .nest ver' e' e2 ess none=>
             if ver=ver'∧e=e'∧k=0∧xs.all yI=true then
               M.pR (decide ((ess.length+xs.length)*(by_+1)<=140737488355328)) (.ref id0 (ver+1),[(id0,.nest (ver+1) e e2 (ess++List.replicate xs.length []) none)])
             else M.fail
           |_=>M.fail
         | .fview id0 ver hi=>M.bind (M.get id0) fun
           | .arr ver' e' es=>
             if ver=ver'∧e=e' then
               M.pR (decide (hi<=es.length∧(hi+xs.length)*(by_+1)<=140737488355328)&&xs.all (fun e=>e.cells.length==k+1)) (.d (.lst (es.take hi++xs)),[(id0,.dead)])
             else M.fail
           |_=>M.fail
         | .dfull es=>M.pR (decide ((es.length+xs.length)*(by_+1)<=140737488355328)&&(xs.all (fun e=>e.cells.length==k+1)&&es.all (fun e=>e.cells.length==k+1))) (.d (.lst (es++xs)),[])
         |_=>M.fail)
      else M.fail
    |_,_,_=>M.fail
end Go.Dw
