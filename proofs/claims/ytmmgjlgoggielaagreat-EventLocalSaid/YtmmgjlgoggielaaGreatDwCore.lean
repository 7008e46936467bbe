
import Derived.Orders

namespace Go.Dw
theorem za{p:Prop}(h:p:=by omega):p:=h
theorem sm{p:Prop}(h:p:=by simp):p:=h
theorem so{p:Prop}(h:p:=by simp;omega):p:=h
theorem zc{p:Prop}(h:p:=by simp only;omega):p:=h
theorem zd{α β:Type}(a:α)(f:α->Option β):(some a).bind f=f a:=rfl
theorem ze{α:Type}{l:List α}{i:Nat}(h:i<l.length):l[i]? =some l[i]:=List.getElem?_eq_getElem h
inductive PD where
  |bool (b:Bool)
  |int (k:IntKind) (n:Int)
  |str (s:List UInt8)
  |lst (es:List PD)
  |agg (cs:List PD)
  |raw (v:Value)
  deriving Inhabited
inductive RV where
  |d (p:PD)
  |undef
  |junk
  |ng
  |agg (cs:List RV)
  |tup (cs:List RV)
  |ref (id ver:Nat)
  |ptr (id off:Nat)
  |elt (id ver i o:Nat)
  |cptr (cs:List PD)
  |view (id ver lo hi:Nat)
  |clo (f:FuncId) (cs:List RV)
  |fview (id ver hi:Nat)
  |err (ok:Bool)
  |dfull (es:List PD)
  |ifc (t:TypeId) (c:RV)
  deriving Inhabited
inductive Box where
  |var (cs:List RV)
  |arr (ver:Nat) (e:TypeId) (es:List PD)
  |dead
  |map (kt vt:TypeId) (es:List (PD×PD))
  deriving Inhabited
abbrev qY:=Nat->Option Box
abbrev Ups:=List (Nat×Box)
def M(α:Type):Type:=qY->Option (α×List Nat×Bool)
namespace M
def pure{α:Type}(a:α):M α:=fun _=>some (a,[],true)
def bind{α β:Type}(m:M α)(f:α->M β):M β:=fun b=>
  match m b with
  |some (a,r,c)=>
    match f a b with
    |some (x,r',c')=>some (x,r++r',c&&c')
    |none=>none
  |none=>none
def fail{α:Type}:M α:=fun _=>none
def get(id:Nat):M Box:=fun b=>match b id with|some x=>some (x,[id],true)|none=>none
def rp(id:Nat):M Unit:=fun b=>match b id with|some _=>none|none=>some ((),[id],true)
def qJ{α:Type}(c:Bool)(a:α):M α:=fun _=>some (a,[],c)
end M
def PD.cells:PD->List PD
  | .agg cs=>cs
  |p=>[p]
def PD.one:PD->Bool
  | .agg _=>false
  |_=>true
def RV.cells:RV->List RV
  | .agg cs=>cs
  | .d (.agg cs)=>cs.map .d
  |v=>[v]
def RV.one:RV->Bool
  | .d p=>p.one
  | .ng| .ref _ _| .ptr _ _| .elt _ _ _ _| .cptr _| .view _ _ _ _| .clo _ _| .fview _ _ _| .err _| .ifc _ _=>true
  |_=>false
def RV.sized(v:RV):Bool:=v.cells.all RV.one
def nil0:PD:= .raw (.slice none 0 0)
def isNils:RV->Bool
  | .ng=>true
  |_=>false
inductive NC where
  |row (e:TypeId) (es:List PD)
  |val (v:RV)
def ncs(e2:TypeId)(ess:List (List PD)):Option (Nat×RV)->List NC
  |none=>ess.map (.row e2)
  |some (i,rv)=>(ess.map (.row e2)).set i (.val rv)
def vW:List RV->Option (List PD)
  | []=>some []
  | .d p::r=>match vW r with|some l=>some (p::l)|none=>none
  |_=>none
def AY(cs:List RV):RV:=match vW cs with|some l=>.d (.agg l)|none=>.agg cs
def wL:RV->M (PD×Ups)
  | .d p=>M.pure (p,[])
  | .ng=>M.pure (.lst [],[])
  | .ref id ver=>M.bind (M.get id) fun
    | .arr ver' _ es=>if ver=ver' then M.pure (.lst es,[(id,.dead)])else M.fail
    |_=>M.fail
  | .view id ver lo hi=>M.bind (M.get id) fun
    | .arr ver' _ es=>if ver=ver' then M.qJ (decide (lo<=hi∧hi<=es.length)) (.lst ((es.drop lo).take (hi-lo)),[(id,.dead)])else M.fail
    |_=>M.fail
  |_=>M.fail
def uJ:List RV->M (List PD×Ups)
  | []=>M.pure ([],[])
  |c::r=>M.bind (wL c) fun(p,u)=>M.bind (uJ r) fun(ps,us)=>M.pure (p::ps,u++us)
def yx(cs:List RV):Bool:= !cs.isEmpty&&cs.all isNils
def wW(mt:Bool)(cs:List RV):M (List PD×Ups):=if mt&&yx cs then M.pure (cs.map fun _=>nil0,[])else uJ cs
def tN(v:RV):M (PD×Ups):=
  match v with
  | .agg cs=>M.bind (uJ cs) fun(ps,u)=>M.pure (.agg ps,u)
  |v=>wL v
def rr(P:Program)(t:TypeId):Bool:=
  match P.underlying t with
  |some (.struct _)|some (.array _ _)=>true
  |_=>false
def szT(P:Program)(t:TypeId):Option Nat:=(P.info? t).map (·.size)
def sW(P:Program)(t:TypeId):Option Nat:=(P.info? t).map (·.bytes)
def si(P:Program)(t:TypeId):Option Value:=(P.info? t).bind (·.zero)
def sw(P:Program)(t:TypeId):Option TypeId:=
  match P.underlying t with
  |some (.slice e)=>some e
  |_=>none
def ti:Value->RV
  | .bool b=>.d (.bool b)
  | .int k n=>.d (.int k n)
  | .string s=>.d (.str s.data.toList)
  | .slice none 0 0=>.ng
  | .func (.func f) ⟨[]⟩ ⟨[]⟩=>.d (.raw (.func (.func f) #[] #[]))
  | .nilFunc=>.d (.raw .nilFunc)
  | .nilIface=>.d (.raw .nilIface)
  | .pointer none=>.d (.raw (.pointer none))
  | .map none=>.d (.raw (.map none))
  |_=>.junk
def rJ:Value->RV
  | .agg cs=>.agg (cs.toList.map ti)
  |v=>ti v
def andI(k:IntKind)(x y:Int):Int:=k.wrap (((BitVec.ofInt k.bits x &&& BitVec.ofInt k.bits y).toNat:Nat):Int)
def orI(k:IntKind)(x y:Int):Int:=k.wrap (((BitVec.ofInt k.bits x ||| BitVec.ofInt k.bits y).toNat:Nat):Int)
def xorI(k:IntKind)(x y:Int):Int:=k.wrap (((BitVec.ofInt k.bits x ^^^ BitVec.ofInt k.bits y).toNat:Nat):Int)
def Ab(k:IntKind)(x y:Int):Int:=k.wrap (((BitVec.ofInt k.bits x &&& ~~~ BitVec.ofInt k.bits y).toNat:Nat):Int)
def shlI(k:IntKind)(x y:Int):Int:=k.wrap (x*2 ^ (min y.toNat k.bits))
def qP(k:IntKind)(x y:Int):Int:=x.fdiv (2 ^ (min y.toNat k.bits))
def xL(op:BinOp)(k:IntKind)(x y:Int):Option (PD×Bool):=
  match op with
  | .add=>some (.int k (k.wrap (x+y)),true)
  | .sub=>some (.int k (k.wrap (x-y)),true)
  | .mul=>some (.int k (k.wrap (x*y)),true)
  | .quo=>some (.int k (k.wrap (x.tdiv y)),y != 0)
  | .rem=>some (.int k (x.tmod y),y != 0)
  | .eql=>some (.bool (x==y),true)
  | .neq=>some (.bool (x != y),true)
  | .lss=>some (.bool (decide (x<y)),true)
  | .leq=>some (.bool (decide (x<=y)),true)
  | .gtr=>some (.bool (decide (x>y)),true)
  | .geq=>some (.bool (decide (x>=y)),true)
  | .and=>some (.int k (andI k x y),true)
  | .or=>some (.int k (orI k x y),true)
  | .xor=>some (.int k (xorI k x y),true)
  | .andNot=>some (.int k (Ab k x y),true)
  |_=>none
def BI(op:BinOp)(x y:List UInt8):Option (PD×Bool):=
  match op with
  | .add=>some (.str (x++y),decide (((x.length+y.length:Nat):Int)<=IntKind.i64.max))
  | .eql=>some (.bool (x==y),true)
  | .neq=>some (.bool !(x==y),true)
  | .lss=>some (.bool (Op.bytesLess x y),true)
  | .leq=>some (.bool (Op.bytesLess x y||x==y),true)
  | .gtr=>some (.bool !(Op.bytesLess x y||x==y),true)
  | .geq=>some (.bool !(Op.bytesLess x y),true)
  |_=>none
def yM(op:BinOp)(x y:RV):Option (PD×Bool):=
  match x,y with
  | .d (.int k a),.d (.int k' b)=>(match op with| .shl=>some (.int k (shlI k a b),decide (0<=b))| .shr=>some (.int k (qP k a b),decide (0<=b))|op=>if k=k' then xL op k a b else none)
  | .d (.str a),.d (.str b)=>BI op a b
  |_,_=>none
def vQ(o:Option (PD×Bool)):M (RV×Ups):=match o with|some (p,c)=>M.qJ c (.d p,[])|none=>M.fail
def rT(v:RV):M (RV×Ups):=M.pure (v,[])
def ru(c:Bool)(v:RV):M (RV×Ups):=M.qJ c (v,[])
def u7(P:Program)(t:TypeId):Option (Bool×Nat):=
  match P.underlying t,szT P t with
  |some _,some n=>some (rr P t,n)
  |_,_=>none
def uc(P:Program)(t:TypeId)(cs:List PD):M (RV×Ups):=
  match u7 P t with
  |none=>M.fail
  |some (true,n)=>ru (decide (n<=cs.length)) (.d (.agg (cs.take n)))
  |some (false,_)=>match cs with|c::_=>rT (.d c)| []=>M.fail
def tJ(P:Program)(t:TypeId)(cs:List RV)(off:Nat):M (RV×Ups):=
  match u7 P t with
  |none=>M.fail
  |some (true,n)=>ru (decide (off+n<=cs.length)) (AY ((cs.drop off).take n))
  |some (false,_)=>match cs[off]? with|some c=>rT c|none=>M.fail
def vd(P:Program)(t:TypeId)(cs:List PD)(off:Nat):Option PD:=
  match u7 P t with
  |some (true,n)=>if off+n<=cs.length then some (.agg ((cs.drop off).take n))else none
  |some (false,_)=>cs[off]?
  |none=>none
def eqFs(P:Program)(rec:TypeId->PD->PD->Option Bool)(xs ys:List PD):List Field->Option Bool
  | []=>some true
  |f::r=>
    if f.name = "_" then none else
    match vd P f.type xs f.offset,vd P f.type ys f.offset with
    |some a,some b=>(match rec f.type a b,eqFs P rec xs ys r with|some p,some q=>some (p&&q)|_,_=>none)
    |_,_=>none
def zQ(P:Program)(rec:PD->PD->Option Bool)(e:TypeId)(k:Nat)(xs ys:List PD):List Nat->Option Bool
  | []=>some true
  |i::r=>
    match vd P e xs (i*k),vd P e ys (i*k)with
    |some a,some b=>(match rec a b,zQ P rec e k xs ys r with|some p,some q=>some (p&&q)|_,_=>none)
    |_,_=>none
def yW(P:Program):Nat->TypeId->PD->PD->Option Bool
  |0,_,_,_=>none
  |d+1,t,x,y=>
    match P.underlying t,x,y with
    |some .bool,.bool a,.bool b=>some (a==b)
    |some (.int _),.int k a,.int k' b=>if k=k' then some (a==b)else none
    |some .string,.str a,.str b=>some (a==b)
    |some (.struct fs),.agg xs,.agg ys=>if P.stoodInHeld t then none else eqFs P (yW P d) xs ys fs.toList
    |some (.array n e),.agg xs,.agg ys=>(match P.info? e with|some _=>zQ P (yW P d e) e (P.cellsOf e) xs ys (List.range n)|none=>none)
    |_,_,_=>none
def eqOp(P:Program)(op:BinOp)(t:TypeId)(x y:RV):Option (PD×Bool):=
  match op,x,y with
  | .eql,.d (.bool a),.d (.bool b)=>(match yW P 1 t (.bool a) (.bool b)with|some r=>some (.bool r,true)|none=>none)
  | .neq,.d (.bool a),.d (.bool b)=>(match yW P 1 t (.bool a) (.bool b)with|some r=>some (.bool !r,true)|none=>none)
  | .eql,.d (.agg a),.d (.agg b)=>if P.eqGuardType P.depth t then none else(match yW P 20 t (.agg a) (.agg b)with|some r=>some (.bool r,true)|none=>none)
  | .neq,.d (.agg a),.d (.agg b)=>if P.eqGuardType P.depth t then none else(match yW P 20 t (.agg a) (.agg b)with|some r=>some (.bool !r,true)|none=>none)
  | .eql,.d (.lst es),.ng=>(match P.underlying t with|some (.slice _)=>some (.bool false, !es.isEmpty)|_=>none)
  | .neq,.d (.lst es),.ng=>(match P.underlying t with|some (.slice _)=>some (.bool true, !es.isEmpty)|_=>none)
  | .eql,.ng,.ng=>(match P.underlying t with|some (.slice _)=>some (.bool true,true)|_=>none)
  | .neq,.ng,.ng=>(match P.underlying t with|some (.slice _)=>some (.bool false,true)|_=>none)
  |_,_,_=>none
def wP(P:Program)(op:BinOp)(t:TypeId)(x y:RV):Option (PD×Bool):=
  match yM op x y with
  |some r=>some r
  |none=>eqOp P op t x y
def isC:Operand->Bool
  | .const _=>true
  |_=>false
def Bu(P:Program)(op:BinOp)(t:TypeId)(c:Bool)(a b:RV):Option (PD×Bool):=
  match P.underlying t,op,a,b with
  |some (.interface _),.eql,.err b,.d (.raw .nilIface)=>some (.bool b,c|| !b)
  |some (.interface _),.neq,.err b,.d (.raw .nilIface)=>some (.bool !b,c|| !b)
  |some (.interface _),.eql,.d (.raw .nilIface),.d (.raw .nilIface)=>some (.bool true,c)
  |some (.interface _),.neq,.d (.raw .nilIface),.d (.raw .nilIface)=>some (.bool false,c)
  |_,_,_,_=>none
def binX(P:Program)(op:BinOp)(t:TypeId)(x y:Operand)(a b:RV):Option (PD×Bool):=
  match wP P op t a b with
  |some r=>some r
  |none=>Bu P op t (isC x||isC y) a b
def uv(P:Program)(t:TypeId)(a:RV):M (RV×Ups):=
  match a with
  | .cptr cs=>uc P t cs
  | .ptr id off=>M.bind (M.get id) fun
    | .var cs=>tJ P t cs off
    |_=>M.fail
  | .elt id ver i o=>M.bind (M.get id) fun
    | .arr ver' _ es=>
      if ver=ver' then(match es[i]? with|some e=>uc P t (e.cells.drop o)|none=>M.fail)
      else M.fail
    |_=>M.fail
  |_=>M.fail
def setCells(cs:List RV)(off:Nat):List RV->List RV
  | []=>cs
  |v::r=>setCells (cs.set off v) (off+1) r
def tR(cs:List PD)(off:Nat):List PD->List PD
  | []=>cs
  |v::r=>tR (cs.set off v) (off+1) r
def PD.put(e:PD)(o:Nat)(vs:List PD):PD:=
  match e with
  | .agg cs=>.agg (tR cs o vs)
  |e=>vs.headD e
def vK(P:Program)(t:TypeId)(a v:RV):M (RV×Ups):=
  match szT P t with
  |none=>M.fail
  |some n=>
    match a with
    | .ptr id off=>M.bind (M.get id) fun
      | .var cs=>M.qJ (v.sized&&decide (v.cells.length=n∧off+n<=cs.length)) (.undef,[(id,.var (setCells cs off v.cells))])
      |_=>M.fail
    | .elt id ver i o=>M.bind (M.get id) fun
      | .arr ver' e es=>
        if ver=ver' then
          M.bind (tN v) fun(p,u)=>
          match es[i]? with
          |some x=>if(u.map (·.1)).contains id then M.fail else M.qJ (v.sized&&decide (p.cells.length=n∧o+n<=x.cells.length)) (.undef,u++[(id,.arr ver' e (es.set i (x.put o p.cells)))])
          |none=>M.fail
        else M.fail
      |_=>M.fail
    |_=>M.fail
def u6(P:Program)(t:TypeId)(f:Nat):Option (Nat×TypeId):=
  match P.underlying t with
  |some (.struct fs)=>(match fs[f]? with|some x=>some (x.offset,x.type)|none=>none)
  |_=>none
def wJ(off:Nat)(x:RV):M (RV×Ups):=
  match x with
  | .ptr id o=>M.bind (M.get id) fun
    | .var _=>rT (.ptr id (o+off))
    |_=>M.fail
  | .elt id ver i o=>M.bind (M.get id) fun
    | .arr ver' _ _=>if ver=ver' then rT (.elt id ver i (o+off))else M.fail
    |_=>M.fail
  | .cptr cs=>rT (.cptr (cs.drop off))
  |_=>M.fail
def tk(P:Program)(t:TypeId)(x:RV)(f:Nat):M (RV×Ups):=
  match u6 P t f with
  |none=>M.fail
  |some (off,ft)=>
    match szT P ft with
    |some (_+1)=>wJ off x
    |_=>M.fail
def uZ:RV->Option (List RV)
  | .agg cs=>some cs
  | .d (.agg cs)=>some (cs.map .d)
  |_=>none
def wS(P:Program)(t:TypeId)(x:RV)(f:Nat):M (RV×Ups):=
  match u6 P t f,uZ x with
  |some (off,ft),some cs=>tJ P ft cs off
  |_,_=>M.fail
def wU(x i:RV):M (RV×Ups):=
  match x,i with
  | .d (.str s),.d (.int _ n)=>ru (decide (0<=n∧n<s.length)) (.d (.int .u8 ((s.getD n.toNat 0).toNat:Nat)))
  |_,_=>M.fail
def xJ(P:Program)(len:Nat)(e:TypeId)(x i:RV):M (RV×Ups):=
  match uZ x,i,szT P e with
  |some cs,.d (.int _ n),some k=>M.bind (M.qJ (decide (0<=n∧n<len)) ()) fun _=>tJ P e cs (n.toNat*k)
  |_,_,_=>M.fail
def wb(P:Program)(t:TypeId)(x i:RV):M (RV×Ups):=
  match P.underlying t with
  |some .string=>wU x i
  |some (.array len e)=>xJ P len e x i
  |_=>M.fail
def sc(P:Program)(t:TypeId)(x i:RV):M (RV×Ups):=
  match P.underlying t,i with
  |some (.slice e),.d (.int _ n)=>
    (match szT P e with
     |none=>M.fail
     |some k=>
       match x with
       | .d (.lst es)=>ru (decide (0<=n∧n<es.length)&&((es.getD n.toNat default).cells.length==k)) (.cptr (es.getD n.toNat default).cells)
       | .ref id ver=>M.bind (M.get id) fun
         | .arr ver' e' es=>if ver=ver'∧e=e' then ru (decide (0<=n∧n<es.length)) (.elt id ver n.toNat 0)else M.fail
         |_=>M.fail
       | .view id ver lo hi=>M.bind (M.get id) fun
         | .arr ver' e' es=>if ver=ver'∧e=e' then ru (decide (0<=n∧n<(hi:Int)-lo∧hi<=es.length)) (.elt id ver (lo+n.toNat) 0)else M.fail
         |_=>M.fail
       |_=>M.fail)
  |some (.array len e),.d (.int _ n)=>
    (match szT P e with
     |some k=>M.bind (M.qJ (decide (0<=n∧n<len)) ()) fun _=>wJ (n.toNat*k) x
     |none=>M.fail)
  |_,_=>M.fail
def bnd(o:Option RV)(dflt:Int):Option Int:=
  match o with
  |none=>some dflt
  |some (.d (.int _ n))=>some n
  |_=>none
def cut{α:Type}(l:List α)(lo:Nat)(hi:Option Nat):List α:=
  match hi with
  |none=>l.drop lo
  |some h=>(l.drop lo).take (h-lo)
def hiOf(o:Option RV)(h:Int):Option Nat:=match o with|none=>none|some _=>some h.toNat
def sliceB(P:Program)(e:TypeId)(id ver a b:Nat)(lo hi:Option RV):M (RV×Ups):=
  match bnd lo 0,bnd hi ((b:Int)-a),szT P e with
  |some l,some h,some (_+1)=>M.bind (M.get id) fun
    | .arr ver' e' es=>if ver=ver'∧e=e' then ru (decide (a<=b∧b<=es.length∧0<=l∧l<=h∧h<=(b:Int)-a)) (.view id ver (a+l.toNat) (a+h.toNat))else M.fail
    |_=>M.fail
  |_,_,_=>M.fail
def xW(P:Program)(nid:Nat)(e:TypeId)(n:Nat)(lo hi mx:Option RV):M (RV×Ups):=
  match bnd lo 0,hi,mx,szT P e with
  |some l,some (.d (.int _ h)),some (.d (.int _ m)),some (_+1)=>
    if l=0∧h=0∧m=0 then M.bind (M.rp nid) fun _=>M.qJ (decide (0<=n)) (.ref nid 0,[(nid,.arr 0 e [])])else M.fail
  |_,_,_,_=>M.fail
def sh(P:Program)(e:TypeId)(k:Nat):Nat->List PD->List PD
  |0,_=>[]
  |n+1,cs=>(if rr P e then .agg (cs.take k)else cs.headD default)::sh P e k n (cs.drop k)
def w3(P:Program)(id:Nat)(a:TypeId):M (RV×Ups):=
  match P.underlying a with
  |some (.array n e)=>
    (match szT P e with
     |some (k+1)=>M.bind (M.get id) fun
       | .var cs => (match vW cs with
         |some ps=>if rr P e=true∨k=0 then M.qJ (decide (ps.length=n*(k+1))&&ps.all PD.one) (.d (.lst (sh P e (k+1) n ps)),[(id,.dead)])else M.fail
         |none=>M.fail)
       |_=>M.fail
     |_=>M.fail)
  |_=>M.fail
def w5(P:Program)(e:TypeId)(id ver:Nat)(lo hi:Option RV)(mx:RV):M (RV×Ups):=
  match lo,hi,mx,szT P e with
  |none,some (.d (.int _ h)),.d (.int _ m),some (_+1)=>
    if h=m then M.bind (M.get id) fun
      | .arr ver' e' es=>if ver=ver'∧e=e' then M.qJ (decide (0<=h∧h<=es.length)) (.fview id ver h.toNat,[])else M.fail
      |_=>M.fail
    else M.fail
  |_,_,_,_=>M.fail
def w4(P:Program)(a:TypeId)(cs:List PD):M (RV×Ups):=
  match P.underlying a with
  |some (.array n e)=>
    (match szT P e with
     |some (k+1)=>if rr P e=true∨k=0 then M.qJ (decide (n*(k+1)<=cs.length)&&(cs.take (n*(k+1))).all PD.one) (.d (.lst (sh P e (k+1) n (cs.take (n*(k+1))))),[])else M.fail
     |_=>M.fail)
  |_=>M.fail
def yl(P:Program)(e:TypeId)(es:List PD)(h m:Int):M (RV×Ups):=
  match szT P e with
  |some (_+1)=>if h=m then M.qJ (decide (h=es.length)) (.dfull es,[])else M.fail
  |_=>M.fail
def xv(P:Program)(t:TypeId)(x:RV)(lo hi mx:Option RV):M (RV×Ups):=
  match P.underlying t,x,lo,hi,mx with
  |some (.slice e),.ref id ver,none,some (.d (.int _ h)),none=>
    (match szT P e with
     |some (_+1)=>M.bind (M.get id) fun
       | .arr ver' e' es=>if ver=ver'∧e=e' then M.qJ (decide (0<=h∧h<=es.length)) (.ref id (ver+1),[(id,.arr (ver+1) e (es.take h.toNat))])else M.fail
       |_=>M.fail
     |_=>M.fail)
  |some (.slice e),.d (.lst es),none,some (.d (.int _ h)),some (.d (.int _ m))=>yl P e es h m
  |_,_,_,_,_=>M.fail
def sq(P:Program)(nid:Nat)(t:TypeId)(x:RV)(lo hi mx:Option RV):M (RV×Ups):=
  match P.underlying t,x,mx with
  |some (.slice e),.ref id ver,none=>M.bind (M.get id) fun
    | .arr _ _ es=>sliceB P e id ver 0 es.length lo hi
    |_=>M.fail
  |some (.slice e),.view id ver a b,none=>sliceB P e id ver a b lo hi
  |some (.array _ _),.ptr id 0,none=>(match lo,hi with|none,none=>w3 P id t|_,_=>M.fail)
  |some (.array _ _),.cptr cs,none=>(match lo,hi with|none,none=>w4 P t cs|_,_=>M.fail)
  | some (.slice e), .ng, none => (match bnd lo 0, hi, szT P e with
    |some l,some (.d (.int _ h)),some _=>if l=0∧h=0 then M.pure (.ng,[])else M.fail
    |_,_,_=>M.fail)
  |some (.slice e),.d (.lst es),some m=>xW P nid e es.length lo hi (some m)
  |some (.slice e),.ref id ver,some m=>w5 P e id ver lo hi m
  |some .string,.d (.str s),none=>
    (match bnd lo 0, bnd hi s.length with
     |some l,some h=>ru (decide (0<=l∧l<=h∧h<=s.length)) (.d (.str (cut s l.toNat (hiOf hi h))))
     |_,_=>M.fail)
  |some (.slice e),.d (.lst es),none=>
    (match bnd lo 0, bnd hi es.length, szT P e with
     |some l,some h,some k=>ru (decide (0<=l∧l<=h∧h<=es.length)&&es.all (fun e=>e.cells.length==k)) (.d (.lst (cut es l.toNat (hiOf hi h))))
     |_,_,_=>M.fail)
  |_,_,_=>M.fail
def wI(place:Nat->Option (Nat×Nat))(cs:List RV):List (Nat×RV)->Option (List RV)
  | []=>some cs
  |(i,v)::r=>
    match place i with
    |some (off,k)=>if v.cells.length=k∧off+k<=cs.length then wI place (setCells cs off v.cells) r else none
    |none=>none
def An(P:Program)(fs:Array Field)(i:Nat):Option (Nat×Nat):=
  match fs[i]? with
  |some f=>(match szT P f.type with|some k=>some (f.offset,k)|none=>none)
  |none=>none
def tY(parts:List (Nat×RV)):Bool:=parts.all fun x=>x.2.sized
def wR(P:Program)(t:TypeId)(parts:List (Nat×RV)):M (RV×Ups):=
  match P.underlying t,si P t with
  |some (.struct fs),some z=>
    if fs.toList.all fun f=>(szT P f.type).isSome then
      (match wI (An P fs) (rJ z).cells parts with
       |some cs=>ru (tY parts) (AY cs)
       |none=>M.fail)
    else M.fail
  |some (.array _ e),some z=>
    (match szT P e with
     | some k => (match wI (fun i => some (i * k, k)) (rJ z).cells parts with
       |some cs=>ru (tY parts) (AY cs)
       |none=>M.fail)
     |none=>M.fail)
  |_,_=>M.fail
def sI(P:Program)(mt:Bool)(id:Nat)(t:TypeId)(len:Nat)(parts:List (Nat×RV)):M (RV×Ups):=
  match sw P t with
  |none=>M.fail
  |some e=>
    match szT P e,si P e with
    |some (k+1),some z=>
      if len*(k+1)<=2 ^ 24∧z.cells.size=k+1∧(rr P e=true∨k=0)then
        (match wI (fun i => some (i * (k + 1), k + 1)) (List.replicate len (rJ z).cells).flatten parts with
         |some cs=>M.bind (wW mt cs) fun(ps,u)=>
           if mt&& !yx cs then M.bind (M.rp id) fun _=>M.qJ (tY parts&&ps.all PD.one) (.ref id 0,u++[(id,.arr 0 e (sh P e (k+1) len ps))])
           else M.qJ (tY parts&&ps.all PD.one) (.d (.lst (sh P e (k+1) len ps)),u)
         |none=>M.fail)
      else M.fail
    |_,_=>M.fail
def wO(P:Program)(id:Nat)(t:TypeId):M (RV×Ups):=
  match si P t with
  |some z=>M.bind (M.rp id) fun _=>M.pure (.ptr id 0,[(id,.var (rJ z).cells)])
  |none=>M.fail
def boxD(id:Nat)(v:RV):M (RV×Ups):=
  M.bind (M.rp id) fun _=>M.qJ v.sized (.ptr id 0,[(id,.var v.cells)])
def zi(P:Program)(t:TypeId)(x:RV):M (RV×Ups):=
  match P.underlying t,x with
  |some .string,.d (.str s)=>rT (.d (.int .i64 s.length))
  |some (.slice _),.d (.lst es)=>rT (.d (.int .i64 es.length))
  |some (.slice _),.ng=>rT (.d (.int .i64 0))
  |some (.slice _),.ref id ver=>M.bind (M.get id) fun
    | .arr ver' _ es=>if ver=ver' then rT (.d (.int .i64 es.length))else M.fail
    |_=>M.fail
  |some (.slice _),.view id ver lo hi=>M.bind (M.get id) fun
    | .arr ver' _ es=>if ver=ver' then ru (decide (lo<=hi∧hi<=es.length)) (.d (.int .i64 ((hi:Int)-lo)))else M.fail
    |_=>M.fail
  |some (.map _ _),.ptr id 0=>M.bind (M.get id) fun
    | .map _ _ es=>rT (.d (.int .i64 es.length))
    |_=>M.fail
  |_,_=>M.fail
def sD(x:RV):M (List PD):=
  match x with
  | .d (.lst es)=>M.pure es
  | .ng=>M.pure []
  | .ref id ver=>M.bind (M.get id) fun
    | .arr ver' _ es=>if ver=ver' then M.pure es else M.fail
    |_=>M.fail
  | .view id ver lo hi=>M.bind (M.get id) fun
    | .arr ver' _ es=>if ver=ver' then M.qJ (decide (lo<=hi∧hi<=es.length)) ((es.drop lo).take (hi-lo))else M.fail
    |_=>M.fail
  |_=>M.fail
def yt(x:RV):M (Nat×Nat×TypeId×List PD×Nat×Nat):=
  match x with
  | .ref id ver=>M.bind (M.get id) fun
    | .arr ver' e es=>if ver=ver' then M.pure (id,ver,e,es,0,es.length)else M.fail
    |_=>M.fail
  | .view id ver lo hi=>M.bind (M.get id) fun
    | .arr ver' e es=>if ver=ver' then M.qJ (decide (lo<=hi∧hi<=es.length)) (id,ver,e,es,lo,hi-lo)else M.fail
    |_=>M.fail
  |_=>M.fail
def yc(P:Program)(t:TypeId)(x y:RV):M (RV×Ups):=
  match sw P t with
  | some e => (match szT P e with
    |some (k+1)=>M.bind (yt x) fun d=>M.bind (sD y) fun ys=>
      M.qJ (decide (e=d.2.2.1)&&ys.all fun c=>c.cells.length==k+1)
        (.d (.int .i64 (Nat.min ys.length d.2.2.2.2.2:Nat)),[(d.1,.arr d.2.1 d.2.2.1 (d.2.2.2.1.take d.2.2.2.2.1++ys.take (Nat.min ys.length d.2.2.2.2.2)++d.2.2.2.1.drop (d.2.2.2.2.1+Nat.min ys.length d.2.2.2.2.2)))])
    |_=>M.fail)
  |none=>M.fail
def minL:Int->List RV->Option Int
  |n,[]=>some n
  |n,.d (.int _ m)::r=>minL (if m<n then m else n) r
  |_,_::_=>none
def maxL:Int->List RV->Option Int
  |n,[]=>some n
  |n,.d (.int _ m)::r=>maxL (if m>n then m else n) r
  |_,_::_=>none
def minD:List RV->M (RV×Ups)
  | .d (.int k n)::r=>(match minL n r with|some m=>M.pure (.d (.int k m),[])|none=>M.fail)
  |_=>M.fail
def maxD:List RV->M (RV×Ups)
  | .d (.int k n)::r=>(match maxL n r with|some m=>M.pure (.d (.int k m),[])|none=>M.fail)
  |_=>M.fail
def xD(v:Value):Option PD:=
  match ti v with
  | .d p=>some p
  | .ng=>some (.lst [])
  |_=>none
def wD:List Value->Option (List PD)
  | []=>some []
  |v::r=>match xD v,wD r with
    |some p,some l=>some (p::l)
    |_,_=>none
def su:Value->Option PD
  | .agg cs=>(wD cs.toList).map .agg
  |v=>xD v
def uO(P:Program)(t:TypeId)(x:RV):M (RV×Ups):=
  match sw P t with
  | some e => (match szT P e, (si P e).bind su with
    |some (k+1),some z=>M.bind (yt x) fun d=>
      M.qJ (decide (e=d.2.2.1)&&(z.cells.length==k+1))
        (.tup [],[(d.1,.arr d.2.1 d.2.2.1 (d.2.2.2.1.take d.2.2.2.2.1++List.replicate d.2.2.2.2.2 z++d.2.2.2.1.drop (d.2.2.2.2.1+d.2.2.2.2.2)))])
    |_,_=>M.fail)
  |none=>M.fail
def sn(P:Program)(id:Nat)(t:TypeId)(l c:RV):M (RV×Ups):=
  match sw P t,l,c with
  |some e,.d (.int _ n),.d (.int _ m)=>
    (match szT P e, sW P e, (si P e).bind su with
     |some (k+1),some b,some z=>M.bind (M.rp id) fun _=>
       M.qJ (decide (n<=m∧0<=n∧m.toNat*b<=140737488355328∧m.toNat<=140737488355328)&&(z.cells.length==k+1)) (.ref id 0,[(id,.arr 0 e (List.replicate n.toNat z))])
     |_,_,_=>M.fail)
  |_,_,_=>M.fail
def yb(P:Program)(id:Nat)(t t':TypeId)(s x:RV):M (RV×Ups):=
  match sw P t,P.underlying t',s,x with
  |some e,some (.int _),.ng,.d (.int _ n)=>
    (match szT P e, sW P e, (si P e).bind su with
     |some (k+1),some b,some z=>M.bind (M.rp id) fun _=>
       M.qJ (decide (0<n∧n.toNat*b<=140737488355328∧n.toNat<=140737488355328)&&(z.cells.length==k+1)) (.ref id 0,[(id,.arr 0 e (List.replicate n.toNat z))])
     |_,_,_=>M.fail)
  |_,_,_,_=>M.fail
def capD(P:Program)(t:TypeId)(x:RV):M (RV×Ups):=
  match P.underlying t,x with
  |some (.slice _),.ng=>rT (.d (.int .i64 0))
  |_,_=>M.fail
def uF:PD->PD->Option Bool
  | .int k a,.int k' b=>if k=k' then some (a==b)else none
  | .str a,.str b=>some (a==b)
  | .bool a,.bool b=>some (a==b)
  |_,_=>none
def uS:PD->Bool
  | .agg _=>true
  |_=>false
def zh(P:Program)(kt:TypeId)(a b:PD):Option Bool:=
  match uS a,uS b with
  |true,true=>yW P 20 kt a b
  |false,false=>uF a b
  |_,_=>none
def sa(P:Program)(kt:TypeId)(k:PD):List (PD×PD)->Nat->Option (Option (Nat×PD×PD))
  | [],_=>some none
  |(x,v)::r,i=>
    match zh P kt k x with
    |some true=>some (some (i,x,v))
    |some false=>sa P kt k r (i+1)
    |none=>none
def uu(P:Program):Nat->TypeId->PD->Bool
  |0,_,_=>false
  |d+1,t,k=>
    match P.underlying t,k with
    |some (.int q),.int q' _=>decide (q=q')
    |some .string,.str _=>true
    |some .bool,.bool _=>true
    | some (.struct fs), .agg cs => fs.toList.all fun f => f.name != "_" && (match vd P f.type cs f.offset with | some p => uu P d f.type p | none => false)
    |_,_=>false
def tG(P:Program)(t:TypeId)(k:PD):Bool:=uu P 20 t k
def wA:PD->PD->Bool
  | .int k a,.int k' b=>decide (k=k')&&decide (a=b)
  | .str a,.str b=>decide (a=b)
  | .bool a,.bool b=>decide (a=b)
  |_,_=>false
def wB:List PD->List PD->Bool
  | [],[]=>true
  |a::r,b::q=>wA a b&&wB r q
  |_,_=>false
def xS:PD->PD->Bool
  | .agg a,.agg b=>wB a b
  |a,b=>wA a b
def uw(P:Program)(id:Nat)(t:TypeId):M (RV×Ups):=
  match P.underlying t with
  |some (.map kt vt)=>M.bind (M.rp id) fun _=>M.pure (.ptr id 0,[(id,.map kt vt [])])
  |_=>M.fail
def ug(P:Program)(t:TypeId)(x k:RV)(ok:Bool):M (RV×Ups):=
  match P.underlying t,x,k with
  |some (.map kt vt),.ptr id 0,.d kp=>M.bind (M.get id) fun
    | .map kt' vt' es=>
      if kt=kt'∧vt=vt'∧tG P kt kp=true then
        (match sa P kt kp es 0, (si P vt).bind su with
         |some (some (_,_,v)),_=>if ok then rT (.tup [.d v,.d (.bool true)])else rT (.d v)
         |some none,some z=>if ok then rT (.tup [.d z,.d (.bool false)])else rT (.d z)
         |_,_=>M.fail)
      else M.fail
    |_=>M.fail
  |_,_,_=>M.fail
def vE(P:Program)(t:TypeId)(x k v:RV):M (RV×Ups):=
  match P.underlying t,x,k with
  |some (.map kt vt),.ptr id 0,.d kp=>M.bind (M.get id) fun
    | .map kt' vt' es=>
      if kt=kt'∧vt=vt'∧tG P kt kp=true then
        M.bind (tN v) fun(p,u)=>
        match sa P kt kp es 0 with
        |some (some (i,x,_))=>if(u.map (·.1)).contains id then M.fail else M.qJ (xS kp x) (.undef,u++[(id,.map kt vt (es.set i (kp,p)))])
        |some none=>if(u.map (·.1)).contains id then M.fail else M.pure (.undef,u++[(id,.map kt vt (es++[(kp,p)]))])
        |none=>M.fail
      else M.fail
    |_=>M.fail
  |_,_,_=>M.fail
def sk(P:Program)(id:Nat)(t t':TypeId)(s x:RV):M (RV×Ups):=
  match sw P t with
  |none=>M.fail
  |some e=>
    match szT P e,sW P e,si P e with
    |some (k+1),some (by_+1),some z=>
      if z.cells.size=k+1∧t=t' then
        M.bind (sD x) fun xs=>
        (match s with
         | .ng=>M.bind (M.rp id) fun _=>
           M.qJ (decide (xs.length*(by_+1)<=140737488355328)&&xs.all (fun e=>e.cells.length==k+1)) (.ref id 0,[(id,.arr 0 e xs)])
         | .ref id0 ver=>M.bind (M.get id0) fun
           | .arr ver' e' es=>
             if ver=ver'∧e=e' then
               M.qJ (decide ((es.length+xs.length)*(by_+1)<=140737488355328)&&xs.all (fun e=>e.cells.length==k+1)) (.ref id0 (ver+1),[(id0,.arr (ver+1) e (es++xs))])
             else M.fail
           |_=>M.fail
         | .fview id0 ver hi=>M.bind (M.get id0) fun
           | .arr ver' e' es=>
             if ver=ver'∧e=e' then
               M.qJ (decide (hi<=es.length∧(hi+xs.length)*(by_+1)<=140737488355328)&&xs.all (fun e=>e.cells.length==k+1)) (.d (.lst (es.take hi++xs)),[(id0,.dead)])
             else M.fail
           |_=>M.fail
         | .dfull es=>M.qJ (decide ((es.length+xs.length)*(by_+1)<=140737488355328)&&(xs.all (fun e=>e.cells.length==k+1)&&es.all (fun e=>e.cells.length==k+1))) (.d (.lst (es++xs)),[])
         |_=>M.fail)
      else M.fail
    |_,_,_=>M.fail
end Go.Dw
