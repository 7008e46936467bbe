
import Derived.Orders

namespace Go.Dw
theorem za{p:Prop}(h:p:=by omega):p:=h
theorem sm{p:Prop}(h:p:=by simp):p:=h
theorem so{p:Prop}(h:p:=by simp;omega):p:=h
theorem zb{p:Prop}(h:p:=by simp only;omega):p:=h
theorem zc{α β:Type}(a:α)(f:α->Option β):(some a).bind f=f a:=rfl
theorem zd{α:Type}{l:List α}{i:Nat}(h:i<l.length):l[i]? =some l[i]:=List.getElem?_eq_getElem h
inductive PD where
  |bool (b:Bool)
  |int (k:IntKind) (n:Int)
  |str (s:List UInt8)
  |lst (es:List PD)
  |agg (cs:List PD)
  |raw (v:Value)
  deriving Inhabited
inductive RV where
  |d (p:PD)
  |undef
  |junk
  |mo
  |agg (cs:List RV)
  |tup (cs:List RV)
  |ref (id ver:Nat)
  |ptr (id off:Nat)
  |elt (id ver i o:Nat)
  |cptr (cs:List PD)
  |view (id ver lo hi:Nat)
  |clo (f:FuncId) (cs:List RV)
  |fview (id ver hi:Nat)
  |err (ok:Bool)
  |dfull (es:List PD)
  |ifc (t:TypeId) (c:RV)
  deriving Inhabited
inductive Box where
  |var (cs:List RV)
  |arr (ver:Nat) (e:TypeId) (es:List PD)
  |dead
  |map (kt vt:TypeId) (es:List (PD×PD))
  deriving Inhabited
abbrev p8:=Nat->Option Box
abbrev Ups:=List (Nat×Box)
def M(α:Type):Type:=p8->Option (α×List Nat×Bool)
namespace M
def pure{α:Type}(a:α):M α:=fun _=>some (a,[],true)
def bind{α β:Type}(m:M α)(f:α->M β):M β:=fun b=>
  match m b with
  |some (a,r,c)=>
    match f a b with
    |some (x,r',c')=>some (x,r++r',c&&c')
    |none=>none
  |none=>none
def fail{α:Type}:M α:=fun _=>none
def get(id:Nat):M Box:=fun b=>match b id with|some x=>some (x,[id],true)|none=>none
def qf(id:Nat):M Unit:=fun b=>match b id with|some _=>none|none=>some ((),[id],true)
def pO{α:Type}(c:Bool)(a:α):M α:=fun _=>some (a,[],c)
end M
def PD.cells:PD->List PD
  | .agg cs=>cs
  |p=>[p]
def PD.one:PD->Bool
  | .agg _=>false
  |_=>true
def RV.cells:RV->List RV
  | .agg cs=>cs
  | .d (.agg cs)=>cs.map .d
  |v=>[v]
def RV.one:RV->Bool
  | .d p=>p.one
  | .mo| .ref _ _| .ptr _ _| .elt _ _ _ _| .cptr _| .view _ _ _ _| .clo _ _| .fview _ _ _| .err _| .ifc _ _=>true
  |_=>false
def RV.sized(v:RV):Bool:=v.cells.all RV.one
def nil0:PD:= .raw (.slice none 0 0)
def isNils:RV->Bool
  | .mo=>true
  |_=>false
inductive NC where
  |row (e:TypeId) (es:List PD)
  |val (v:RV)
def ncs(e2:TypeId)(ess:List (List PD)):Option (Nat×RV)->List NC
  |none=>ess.map (.row e2)
  |some (i,rv)=>(ess.map (.row e2)).set i (.val rv)
def uh:List RV->Option (List PD)
  | []=>some []
  | .d p::r=>match uh r with|some l=>some (p::l)|none=>none
  |_=>none
def yY(cs:List RV):RV:=match uh cs with|some l=>.d (.agg l)|none=>.agg cs
def wO:RV->M (PD×Ups)
  | .d p=>M.pure (p,[])
  | .mo=>M.pure (.lst [],[])
  | .ref id ver=>M.bind (M.get id) fun
    | .arr ver' _ es=>if ver=ver' then M.pure (.lst es,[(id,.dead)])else M.fail
    |_=>M.fail
  | .view id ver lo hi=>M.bind (M.get id) fun
    | .arr ver' _ es=>if ver=ver' then M.pO (decide (lo<=hi∧hi<=es.length)) (.lst ((es.drop lo).take (hi-lo)),[(id,.dead)])else M.fail
    |_=>M.fail
  |_=>M.fail
def tS:List RV->M (List PD×Ups)
  | []=>M.pure ([],[])
  |c::r=>M.bind (wO c) fun(p,u)=>M.bind (tS r) fun(ps,us)=>M.pure (p::ps,u++us)
def xL(cs:List RV):Bool:= !cs.isEmpty&&cs.all isNils
def vY(mt:Bool)(cs:List RV):M (List PD×Ups):=if mt&&xL cs then M.pure (cs.map fun _=>nil0,[])else tS cs
def sD(v:RV):M (PD×Ups):=
  match v with
  | .agg cs=>M.bind (tS cs) fun(ps,u)=>M.pure (.agg ps,u)
  |v=>wO v
def qg(P:Program)(t:TypeId):Bool:=
  match P.underlying t with
  |some (.struct _)|some (.array _ _)=>true
  |_=>false
def szT(P:Program)(t:TypeId):Option Nat:=(P.info? t).map (·.size)
def rZ(P:Program)(t:TypeId):Option Nat:=(P.info? t).map (·.bytes)
def qQ(P:Program)(t:TypeId):Option Value:=(P.info? t).bind (·.zero)
def rf(P:Program)(t:TypeId):Option TypeId:=
  match P.underlying t with
  |some (.slice e)=>some e
  |_=>none
def rJ:Value->RV
  | .bool b=>.d (.bool b)
  | .int k n=>.d (.int k n)
  | .string s=>.d (.str s.data.toList)
  | .slice none 0 0=>.mo
  | .func (.func f) ⟨[]⟩ ⟨[]⟩=>.d (.raw (.func (.func f) #[] #[]))
  | .nilFunc=>.d (.raw .nilFunc)
  | .nilIface=>.d (.raw .nilIface)
  | .pointer none=>.d (.raw (.pointer none))
  | .map none=>.d (.raw (.map none))
  |_=>.junk
def qm:Value->RV
  | .agg cs=>.agg (cs.toList.map rJ)
  |v=>rJ v
def sQ(k:IntKind)(x y:Int):Int:=k.wrap (((BitVec.ofInt k.bits x &&& BitVec.ofInt k.bits y).toNat:Nat):Int)
def orI(k:IntKind)(x y:Int):Int:=k.wrap (((BitVec.ofInt k.bits x ||| BitVec.ofInt k.bits y).toNat:Nat):Int)
def qV(k:IntKind)(x y:Int):Int:=k.wrap (((BitVec.ofInt k.bits x ^^^ BitVec.ofInt k.bits y).toNat:Nat):Int)
def zj(k:IntKind)(x y:Int):Int:=k.wrap (((BitVec.ofInt k.bits x &&& ~~~ BitVec.ofInt k.bits y).toNat:Nat):Int)
def xJ(k:IntKind)(x y:Int):Int:=k.wrap (x*2 ^ (min y.toNat k.bits))
def pY(k:IntKind)(x y:Int):Int:=x.fdiv (2 ^ (min y.toNat k.bits))
def w6(op:BinOp)(k:IntKind)(x y:Int):Option (PD×Bool):=
  match op with
  | .add=>some (.int k (k.wrap (x+y)),true)
  | .sub=>some (.int k (k.wrap (x-y)),true)
  | .mul=>some (.int k (k.wrap (x*y)),true)
  | .quo=>some (.int k (k.wrap (x.tdiv y)),y != 0)
  | .rem=>some (.int k (x.tmod y),y != 0)
  | .eql=>some (.bool (x==y),true)
  | .neq=>some (.bool (x != y),true)
  | .lss=>some (.bool (decide (x<y)),true)
  | .leq=>some (.bool (decide (x<=y)),true)
  | .gtr=>some (.bool (decide (x>y)),true)
  | .geq=>some (.bool (decide (x>=y)),true)
  | .and=>some (.int k (sQ k x y),true)
  | .or=>some (.int k (orI k x y),true)
  | .xor=>some (.int k (qV k x y),true)
  | .andNot=>some (.int k (zj k x y),true)
  |_=>none
def zK(op:BinOp)(x y:List UInt8):Option (PD×Bool):=
  match op with
  | .add=>some (.str (x++y),decide (((x.length+y.length:Nat):Int)<=IntKind.i64.max))
  | .eql=>some (.bool (x==y),true)
  | .neq=>some (.bool !(x==y),true)
  | .lss=>some (.bool (Op.bytesLess x y),true)
  | .leq=>some (.bool (Op.bytesLess x y||x==y),true)
  | .gtr=>some (.bool !(Op.bytesLess x y||x==y),true)
  | .geq=>some (.bool !(Op.bytesLess x y),true)
  |_=>none
def xm(op:BinOp)(x y:RV):Option (PD×Bool):=
  match x,y with
  | .d (.int k a),.d (.int k' b)=>(match op with| .shl=>some (.int k (xJ k a b),decide (0<=b))| .shr=>some (.int k (pY k a b),decide (0<=b))|op=>if k=k' then w6 op k a b else none)
  | .d (.str a),.d (.str b)=>zK op a b
  |_,_=>none
def uQ(o:Option (PD×Bool)):M (RV×Ups):=match o with|some (p,c)=>M.pO c (.d p,[])|none=>M.fail
def qu(v:RV):M (RV×Ups):=M.pure (v,[])
def qj(c:Bool)(v:RV):M (RV×Ups):=M.pO c (v,[])
def sY(P:Program)(t:TypeId):Option (Bool×Nat):=
  match P.underlying t,szT P t with
  |some _,some n=>some (qg P t,n)
  |_,_=>none
def ti(P:Program)(t:TypeId)(cs:List PD):M (RV×Ups):=
  match sY P t with
  |none=>M.fail
  |some (true,n)=>qj (decide (n<=cs.length)) (.d (.agg (cs.take n)))
  |some (false,_)=>match cs with|c::_=>qu (.d c)| []=>M.fail
def rD(P:Program)(t:TypeId)(cs:List RV)(off:Nat):M (RV×Ups):=
  match sY P t with
  |none=>M.fail
  |some (true,n)=>qj (decide (off+n<=cs.length)) (yY ((cs.drop off).take n))
  |some (false,_)=>match cs[off]? with|some c=>qu c|none=>M.fail
def um(P:Program)(t:TypeId)(cs:List PD)(off:Nat):Option PD:=
  match sY P t with
  |some (true,n)=>if off+n<=cs.length then some (.agg ((cs.drop off).take n))else none
  |some (false,_)=>cs[off]?
  |none=>none
def eqFs(P:Program)(rec:TypeId->PD->PD->Option Bool)(xs ys:List PD):List Field->Option Bool
  | []=>some true
  |f::r=>
    if f.name = "_" then none else
    match um P f.type xs f.offset,um P f.type ys f.offset with
    |some a,some b=>(match rec f.type a b,eqFs P rec xs ys r with|some p,some q=>some (p&&q)|_,_=>none)
    |_,_=>none
def yU(P:Program)(rec:PD->PD->Option Bool)(e:TypeId)(k:Nat)(xs ys:List PD):List Nat->Option Bool
  | []=>some true
  |i::r=>
    match um P e xs (i*k),um P e ys (i*k)with
    |some a,some b=>(match rec a b,yU P rec e k xs ys r with|some p,some q=>some (p&&q)|_,_=>none)
    |_,_=>none
def yf(P:Program):Nat->TypeId->PD->PD->Option Bool
  |0,_,_,_=>none
  |d+1,t,x,y=>
    match P.underlying t,x,y with
    |some .bool,.bool a,.bool b=>some (a==b)
    |some (.int _),.int k a,.int k' b=>if k=k' then some (a==b)else none
    |some .string,.str a,.str b=>some (a==b)
    |some (.struct fs),.agg xs,.agg ys=>if P.stoodInHeld t then none else eqFs P (yf P d) xs ys fs.toList
    |some (.array n e),.agg xs,.agg ys=>(match P.info? e with|some _=>yU P (yf P d e) e (P.cellsOf e) xs ys (List.range n)|none=>none)
    |_,_,_=>none
def eqOp(P:Program)(op:BinOp)(t:TypeId)(x y:RV):Option (PD×Bool):=
  match op,x,y with
  | .eql,.d (.bool a),.d (.bool b)=>(match yf P 1 t (.bool a) (.bool b)with|some r=>some (.bool r,true)|none=>none)
  | .neq,.d (.bool a),.d (.bool b)=>(match yf P 1 t (.bool a) (.bool b)with|some r=>some (.bool !r,true)|none=>none)
  | .eql,.d (.agg a),.d (.agg b)=>if P.eqGuardType P.depth t then none else(match yf P 20 t (.agg a) (.agg b)with|some r=>some (.bool r,true)|none=>none)
  | .neq,.d (.agg a),.d (.agg b)=>if P.eqGuardType P.depth t then none else(match yf P 20 t (.agg a) (.agg b)with|some r=>some (.bool !r,true)|none=>none)
  | .eql,.d (.lst es),.mo=>(match P.underlying t with|some (.slice _)=>some (.bool false, !es.isEmpty)|_=>none)
  | .neq,.d (.lst es),.mo=>(match P.underlying t with|some (.slice _)=>some (.bool true, !es.isEmpty)|_=>none)
  | .eql,.mo,.mo=>(match P.underlying t with|some (.slice _)=>some (.bool true,true)|_=>none)
  | .neq,.mo,.mo=>(match P.underlying t with|some (.slice _)=>some (.bool false,true)|_=>none)
  |_,_,_=>none
def wm(P:Program)(op:BinOp)(t:TypeId)(x y:RV):Option (PD×Bool):=
  match xm op x y with
  |some r=>some r
  |none=>eqOp P op t x y
def isC:Operand->Bool
  | .const _=>true
  |_=>false
def A0(P:Program)(op:BinOp)(t:TypeId)(c:Bool)(a b:RV):Option (PD×Bool):=
  match P.underlying t,op,a,b with
  |some (.interface _),.eql,.err b,.d (.raw .nilIface)=>some (.bool b,c|| !b)
  |some (.interface _),.neq,.err b,.d (.raw .nilIface)=>some (.bool !b,c|| !b)
  |some (.interface _),.eql,.d (.raw .nilIface),.d (.raw .nilIface)=>some (.bool true,c)
  |some (.interface _),.neq,.d (.raw .nilIface),.d (.raw .nilIface)=>some (.bool false,c)
  |_,_,_,_=>none
def binX(P:Program)(op:BinOp)(t:TypeId)(x y:Operand)(a b:RV):Option (PD×Bool):=
  match wm P op t a b with
  |some r=>some r
  |none=>A0 P op t (isC x||isC y) a b
def tp(P:Program)(t:TypeId)(a:RV):M (RV×Ups):=
  match a with
  | .cptr cs=>ti P t cs
  | .ptr id off=>M.bind (M.get id) fun
    | .var cs=>rD P t cs off
    |_=>M.fail
  | .elt id ver i o=>M.bind (M.get id) fun
    | .arr ver' _ es=>
      if ver=ver' then(match es[i]? with|some e=>ti P t (e.cells.drop o)|none=>M.fail)
      else M.fail
    |_=>M.fail
  |_=>M.fail
def setCells(cs:List RV)(off:Nat):List RV->List RV
  | []=>cs
  |v::r=>setCells (cs.set off v) (off+1) r
def su(cs:List PD)(off:Nat):List PD->List PD
  | []=>cs
  |v::r=>su (cs.set off v) (off+1) r
def PD.put(e:PD)(o:Nat)(vs:List PD):PD:=
  match e with
  | .agg cs=>.agg (su cs o vs)
  |e=>vs.headD e
def tK(P:Program)(t:TypeId)(a v:RV):M (RV×Ups):=
  match szT P t with
  |none=>M.fail
  |some n=>
    match a with
    | .ptr id off=>M.bind (M.get id) fun
      | .var cs=>M.pO (v.sized&&decide (v.cells.length=n∧off+n<=cs.length)) (.undef,[(id,.var (setCells cs off v.cells))])
      |_=>M.fail
    | .elt id ver i o=>M.bind (M.get id) fun
      | .arr ver' e es=>
        if ver=ver' then
          M.bind (sD v) fun(p,u)=>
          match es[i]? with
          |some x=>if(u.map (·.1)).contains id then M.fail else M.pO (v.sized&&decide (p.cells.length=n∧o+n<=x.cells.length)) (.undef,u++[(id,.arr ver' e (es.set i (x.put o p.cells)))])
          |none=>M.fail
        else M.fail
      |_=>M.fail
    |_=>M.fail
def uk(P:Program)(t:TypeId)(f:Nat):Option (Nat×TypeId):=
  match P.underlying t with
  |some (.struct fs)=>(match fs[f]? with|some x=>some (x.offset,x.type)|none=>none)
  |_=>none
def vg(off:Nat)(x:RV):M (RV×Ups):=
  match x with
  | .ptr id o=>M.bind (M.get id) fun
    | .var _=>qu (.ptr id (o+off))
    |_=>M.fail
  | .elt id ver i o=>M.bind (M.get id) fun
    | .arr ver' _ _=>if ver=ver' then qu (.elt id ver i (o+off))else M.fail
    |_=>M.fail
  | .cptr cs=>qu (.cptr (cs.drop off))
  |_=>M.fail
def rN(P:Program)(t:TypeId)(x:RV)(f:Nat):M (RV×Ups):=
  match uk P t f with
  |none=>M.fail
  |some (off,ft)=>
    match szT P ft with
    |some (_+1)=>vg off x
    |_=>M.fail
def ug:RV->Option (List RV)
  | .agg cs=>some cs
  | .d (.agg cs)=>some (cs.map .d)
  |_=>none
def vU(P:Program)(t:TypeId)(x:RV)(f:Nat):M (RV×Ups):=
  match uk P t f,ug x with
  |some (off,ft),some cs=>rD P ft cs off
  |_,_=>M.fail
def vW(x i:RV):M (RV×Ups):=
  match x,i with
  | .d (.str s),.d (.int _ n)=>qj (decide (0<=n∧n<s.length)) (.d (.int .u8 ((s.getD n.toNat 0).toNat:Nat)))
  |_,_=>M.fail
def wZ(P:Program)(len:Nat)(e:TypeId)(x i:RV):M (RV×Ups):=
  match ug x,i,szT P e with
  |some cs,.d (.int _ n),some k=>M.bind (M.pO (decide (0<=n∧n<len)) ()) fun _=>rD P e cs (n.toNat*k)
  |_,_,_=>M.fail
def u6(P:Program)(t:TypeId)(x i:RV):M (RV×Ups):=
  match P.underlying t with
  |some .string=>vW x i
  |some (.array len e)=>wZ P len e x i
  |_=>M.fail
def qI(P:Program)(t:TypeId)(x i:RV):M (RV×Ups):=
  match P.underlying t,i with
  |some (.slice e),.d (.int _ n)=>
    (match szT P e with
     |none=>M.fail
     |some k=>
       match x with
       | .d (.lst es)=>qj (decide (0<=n∧n<es.length)&&((es.getD n.toNat default).cells.length==k)) (.cptr (es.getD n.toNat default).cells)
       | .ref id ver=>M.bind (M.get id) fun
         | .arr ver' e' es=>if ver=ver'∧e=e' then qj (decide (0<=n∧n<es.length)) (.elt id ver n.toNat 0)else M.fail
         |_=>M.fail
       | .view id ver lo hi=>M.bind (M.get id) fun
         | .arr ver' e' es=>if ver=ver'∧e=e' then qj (decide (0<=n∧n<(hi:Int)-lo∧hi<=es.length)) (.elt id ver (lo+n.toNat) 0)else M.fail
         |_=>M.fail
       |_=>M.fail)
  |some (.array len e),.d (.int _ n)=>
    (match szT P e with
     |some k=>M.bind (M.pO (decide (0<=n∧n<len)) ()) fun _=>vg (n.toNat*k) x
     |none=>M.fail)
  |_,_=>M.fail
def bnd(o:Option RV)(dflt:Int):Option Int:=
  match o with
  |none=>some dflt
  |some (.d (.int _ n))=>some n
  |_=>none
def cut{α:Type}(l:List α)(lo:Nat)(hi:Option Nat):List α:=
  match hi with
  |none=>l.drop lo
  |some h=>(l.drop lo).take (h-lo)
def hiOf(o:Option RV)(h:Int):Option Nat:=match o with|none=>none|some _=>some h.toNat
def sliceB(P:Program)(e:TypeId)(id ver a b:Nat)(lo hi:Option RV):M (RV×Ups):=
  match bnd lo 0,bnd hi ((b:Int)-a),szT P e with
  |some l,some h,some (_+1)=>M.bind (M.get id) fun
    | .arr ver' e' es=>if ver=ver'∧e=e' then qj (decide (a<=b∧b<=es.length∧0<=l∧l<=h∧h<=(b:Int)-a)) (.view id ver (a+l.toNat) (a+h.toNat))else M.fail
    |_=>M.fail
  |_,_,_=>M.fail
def xh(P:Program)(nid:Nat)(e:TypeId)(n:Nat)(lo hi mx:Option RV):M (RV×Ups):=
  match bnd lo 0,hi,mx,szT P e with
  |some l,some (.d (.int _ h)),some (.d (.int _ m)),some (_+1)=>
    if l=0∧h=0∧m=0 then M.bind (M.qf nid) fun _=>M.pO (decide (0<=n)) (.ref nid 0,[(nid,.arr 0 e [])])else M.fail
  |_,_,_,_=>M.fail
def qN(P:Program)(e:TypeId)(k:Nat):Nat->List PD->List PD
  |0,_=>[]
  |n+1,cs=>(if qg P e then .agg (cs.take k)else cs.headD default)::qN P e k n (cs.drop k)
def wc(P:Program)(id:Nat)(a:TypeId):M (RV×Ups):=
  match P.underlying a with
  |some (.array n e)=>
    (match szT P e with
     |some (k+1)=>M.bind (M.get id) fun
       | .var cs => (match uh cs with
         |some ps=>if qg P e=true∨k=0 then M.pO (decide (ps.length=n*(k+1))&&ps.all PD.one) (.d (.lst (qN P e (k+1) n ps)),[(id,.dead)])else M.fail
         |none=>M.fail)
       |_=>M.fail
     |_=>M.fail)
  |_=>M.fail
def wg(P:Program)(e:TypeId)(id ver:Nat)(lo hi:Option RV)(mx:RV):M (RV×Ups):=
  match lo,hi,mx,szT P e with
  |none,some (.d (.int _ h)),.d (.int _ m),some (_+1)=>
    if h=m then M.bind (M.get id) fun
      | .arr ver' e' es=>if ver=ver'∧e=e' then M.pO (decide (0<=h∧h<=es.length)) (.fview id ver h.toNat,[])else M.fail
      |_=>M.fail
    else M.fail
  |_,_,_,_=>M.fail
def we(P:Program)(a:TypeId)(cs:List PD):M (RV×Ups):=
  match P.underlying a with
  |some (.array n e)=>
    (match szT P e with
     |some (k+1)=>if qg P e=true∨k=0 then M.pO (decide (n*(k+1)<=cs.length)&&(cs.take (n*(k+1))).all PD.one) (.d (.lst (qN P e (k+1) n (cs.take (n*(k+1))))),[])else M.fail
     |_=>M.fail)
  |_=>M.fail
def xz(P:Program)(e:TypeId)(es:List PD)(h m:Int):M (RV×Ups):=
  match szT P e with
  |some (_+1)=>if h=m then M.pO (decide (h=es.length)) (.dfull es,[])else M.fail
  |_=>M.fail
def wH(P:Program)(t:TypeId)(x:RV)(lo hi mx:Option RV):M (RV×Ups):=
  match P.underlying t,x,lo,hi,mx with
  |some (.slice e),.ref id ver,none,some (.d (.int _ h)),none=>
    (match szT P e with
     |some (_+1)=>M.bind (M.get id) fun
       | .arr ver' e' es=>if ver=ver'∧e=e' then M.pO (decide (0<=h∧h<=es.length)) (.ref id (ver+1),[(id,.arr (ver+1) e (es.take h.toNat))])else M.fail
       |_=>M.fail
     |_=>M.fail)
  |some (.slice e),.d (.lst es),none,some (.d (.int _ h)),some (.d (.int _ m))=>xz P e es h m
  |_,_,_,_,_=>M.fail
def qP(P:Program)(nid:Nat)(t:TypeId)(x:RV)(lo hi mx:Option RV):M (RV×Ups):=
  match P.underlying t,x,mx with
  |some (.slice e),.ref id ver,none=>M.bind (M.get id) fun
    | .arr _ _ es=>sliceB P e id ver 0 es.length lo hi
    |_=>M.fail
  |some (.slice e),.view id ver a b,none=>sliceB P e id ver a b lo hi
  |some (.array _ _),.ptr id 0,none=>(match lo,hi with|none,none=>wc P id t|_,_=>M.fail)
  |some (.array _ _),.cptr cs,none=>(match lo,hi with|none,none=>we P t cs|_,_=>M.fail)
  | some (.slice e), .mo, none => (match bnd lo 0, hi, szT P e with
    |some l,some (.d (.int _ h)),some _=>if l=0∧h=0 then M.pure (.mo,[])else M.fail
    |_,_,_=>M.fail)
  |some (.slice e),.d (.lst es),some m=>xh P nid e es.length lo hi (some m)
  |some (.slice e),.ref id ver,some m=>wg P e id ver lo hi m
  |some .string,.d (.str s),none=>
    (match bnd lo 0, bnd hi s.length with
     |some l,some h=>qj (decide (0<=l∧l<=h∧h<=s.length)) (.d (.str (cut s l.toNat (hiOf hi h))))
     |_,_=>M.fail)
  |some (.slice e),.d (.lst es),none=>
    (match bnd lo 0, bnd hi es.length, szT P e with
     |some l,some h,some k=>qj (decide (0<=l∧l<=h∧h<=es.length)&&es.all (fun e=>e.cells.length==k)) (.d (.lst (cut es l.toNat (hiOf hi h))))
     |_,_,_=>M.fail)
  |_,_,_=>M.fail
def vO(place:Nat->Option (Nat×Nat))(cs:List RV):List (Nat×RV)->Option (List RV)
  | []=>some cs
  |(i,v)::r=>
    match place i with
    |some (off,k)=>if v.cells.length=k∧off+k<=cs.length then vO place (setCells cs off v.cells) r else none
    |none=>none
def zA(P:Program)(fs:Array Field)(i:Nat):Option (Nat×Nat):=
  match fs[i]? with
  |some f=>(match szT P f.type with|some k=>some (f.offset,k)|none=>none)
  |none=>none
def tf(parts:List (Nat×RV)):Bool:=parts.all fun x=>x.2.sized
def vT(P:Program)(t:TypeId)(parts:List (Nat×RV)):M (RV×Ups):=
  match P.underlying t,qQ P t with
  |some (.struct fs),some z=>
    if fs.toList.all fun f=>(szT P f.type).isSome then
      (match vO (zA P fs) (qm z).cells parts with
       |some cs=>qj (tf parts) (yY cs)
       |none=>M.fail)
    else M.fail
  |some (.array _ e),some z=>
    (match szT P e with
     | some k => (match vO (fun i => some (i * k, k)) (qm z).cells parts with
       |some cs=>qj (tf parts) (yY cs)
       |none=>M.fail)
     |none=>M.fail)
  |_,_=>M.fail
def rp(P:Program)(mt:Bool)(id:Nat)(t:TypeId)(len:Nat)(parts:List (Nat×RV)):M (RV×Ups):=
  match rf P t with
  |none=>M.fail
  |some e=>
    match szT P e,qQ P e with
    |some (k+1),some z=>
      if len*(k+1)<=2 ^ 24∧z.cells.size=k+1∧(qg P e=true∨k=0)then
        (match vO (fun i => some (i * (k + 1), k + 1)) (List.replicate len (qm z).cells).flatten parts with
         |some cs=>M.bind (vY mt cs) fun(ps,u)=>
           if mt&& !xL cs then M.bind (M.qf id) fun _=>M.pO (tf parts&&ps.all PD.one) (.ref id 0,u++[(id,.arr 0 e (qN P e (k+1) len ps))])
           else M.pO (tf parts&&ps.all PD.one) (.d (.lst (qN P e (k+1) len ps)),u)
         |none=>M.fail)
      else M.fail
    |_,_=>M.fail
def vR(P:Program)(id:Nat)(t:TypeId):M (RV×Ups):=
  match qQ P t with
  |some z=>M.bind (M.qf id) fun _=>M.pure (.ptr id 0,[(id,.var (qm z).cells)])
  |none=>M.fail
def boxD(id:Nat)(v:RV):M (RV×Ups):=
  M.bind (M.qf id) fun _=>M.pO v.sized (.ptr id 0,[(id,.var v.cells)])
def lenD(P:Program)(t:TypeId)(x:RV):M (RV×Ups):=
  match P.underlying t,x with
  |some .string,.d (.str s)=>qu (.d (.int .i64 s.length))
  |some (.slice _),.d (.lst es)=>qu (.d (.int .i64 es.length))
  |some (.slice _),.mo=>qu (.d (.int .i64 0))
  |some (.slice _),.ref id ver=>M.bind (M.get id) fun
    | .arr ver' _ es=>if ver=ver' then qu (.d (.int .i64 es.length))else M.fail
    |_=>M.fail
  |some (.slice _),.view id ver lo hi=>M.bind (M.get id) fun
    | .arr ver' _ es=>if ver=ver' then qj (decide (lo<=hi∧hi<=es.length)) (.d (.int .i64 ((hi:Int)-lo)))else M.fail
    |_=>M.fail
  |some (.map _ _),.ptr id 0=>M.bind (M.get id) fun
    | .map _ _ es=>qu (.d (.int .i64 es.length))
    |_=>M.fail
  |_,_=>M.fail
def qA(x:RV):M (List PD):=
  match x with
  | .d (.lst es)=>M.pure es
  | .mo=>M.pure []
  | .ref id ver=>M.bind (M.get id) fun
    | .arr ver' _ es=>if ver=ver' then M.pure es else M.fail
    |_=>M.fail
  | .view id ver lo hi=>M.bind (M.get id) fun
    | .arr ver' _ es=>if ver=ver' then M.pO (decide (lo<=hi∧hi<=es.length)) ((es.drop lo).take (hi-lo))else M.fail
    |_=>M.fail
  |_=>M.fail
def wy(x:RV):M (Nat×Nat×TypeId×List PD×Nat×Nat):=
  match x with
  | .ref id ver=>M.bind (M.get id) fun
    | .arr ver' e es=>if ver=ver' then M.pure (id,ver,e,es,0,es.length)else M.fail
    |_=>M.fail
  | .view id ver lo hi=>M.bind (M.get id) fun
    | .arr ver' e es=>if ver=ver' then M.pO (decide (lo<=hi∧hi<=es.length)) (id,ver,e,es,lo,hi-lo)else M.fail
    |_=>M.fail
  |_=>M.fail
def vK(P:Program)(t:TypeId)(x y:RV):M (RV×Ups):=
  match rf P t with
  | some e => (match szT P e with
    |some (k+1)=>M.bind (wy x) fun d=>M.bind (qA y) fun ys=>
      M.pO (decide (e=d.2.2.1)&&ys.all fun c=>c.cells.length==k+1)
        (.d (.int .i64 (Nat.min ys.length d.2.2.2.2.2:Nat)),[(d.1,.arr d.2.1 d.2.2.1 (d.2.2.2.1.take d.2.2.2.2.1++ys.take (Nat.min ys.length d.2.2.2.2.2)++d.2.2.2.1.drop (d.2.2.2.2.1+Nat.min ys.length d.2.2.2.2.2)))])
    |_=>M.fail)
  |none=>M.fail
def minL:Int->List RV->Option Int
  |n,[]=>some n
  |n,.d (.int _ m)::r=>minL (if m<n then m else n) r
  |_,_::_=>none
def maxL:Int->List RV->Option Int
  |n,[]=>some n
  |n,.d (.int _ m)::r=>maxL (if m>n then m else n) r
  |_,_::_=>none
def minD:List RV->M (RV×Ups)
  | .d (.int k n)::r=>(match minL n r with|some m=>M.pure (.d (.int k m),[])|none=>M.fail)
  |_=>M.fail
def maxD:List RV->M (RV×Ups)
  | .d (.int k n)::r=>(match maxL n r with|some m=>M.pure (.d (.int k m),[])|none=>M.fail)
  |_=>M.fail
def wT(v:Value):Option PD:=
  match rJ v with
  | .d p=>some p
  | .mo=>some (.lst [])
  |_=>none
def vE:List Value->Option (List PD)
  | []=>some []
  |v::r=>match wT v,vE r with
    |some p,some l=>some (p::l)
    |_,_=>none
def qW:Value->Option PD
  | .agg cs=>(vE cs.toList).map .agg
  |v=>wT v
def tX(P:Program)(t:TypeId)(x:RV):M (RV×Ups):=
  match rf P t with
  | some e => (match szT P e, (qQ P e).bind qW with
    |some (k+1),some z=>M.bind (wy x) fun d=>
      M.pO (decide (e=d.2.2.1)&&(z.cells.length==k+1))
        (.tup [],[(d.1,.arr d.2.1 d.2.2.1 (d.2.2.2.1.take d.2.2.2.2.1++List.replicate d.2.2.2.2.2 z++d.2.2.2.1.drop (d.2.2.2.2.1+d.2.2.2.2.2)))])
    |_,_=>M.fail)
  |none=>M.fail
def rP(P:Program)(id:Nat)(t:TypeId)(l c:RV):M (RV×Ups):=
  match rf P t,l,c with
  |some e,.d (.int _ n),.d (.int _ m)=>
    (match szT P e, rZ P e, (qQ P e).bind qW with
     |some (k+1),some b,some z=>M.bind (M.qf id) fun _=>
       M.pO (decide (n<=m∧0<=n∧m.toNat*b<=140737488355328∧m.toNat<=140737488355328)&&(z.cells.length==k+1)) (.ref id 0,[(id,.arr 0 e (List.replicate n.toNat z))])
     |_,_,_=>M.fail)
  |_,_,_=>M.fail
def vI(P:Program)(id:Nat)(t t':TypeId)(s x:RV):M (RV×Ups):=
  match rf P t,P.underlying t',s,x with
  |some e,some (.int _),.mo,.d (.int _ n)=>
    (match szT P e, rZ P e, (qQ P e).bind qW with
     |some (k+1),some b,some z=>M.bind (M.qf id) fun _=>
       M.pO (decide (0<n∧n.toNat*b<=140737488355328∧n.toNat<=140737488355328)&&(z.cells.length==k+1)) (.ref id 0,[(id,.arr 0 e (List.replicate n.toNat z))])
     |_,_,_=>M.fail)
  |_,_,_,_=>M.fail
def capD(P:Program)(t:TypeId)(x:RV):M (RV×Ups):=
  match P.underlying t,x with
  |some (.slice _),.mo=>qu (.d (.int .i64 0))
  |_,_=>M.fail
def tO:PD->PD->Option Bool
  | .int k a,.int k' b=>if k=k' then some (a==b)else none
  | .str a,.str b=>some (a==b)
  | .bool a,.bool b=>some (a==b)
  |_,_=>none
def ua:PD->Bool
  | .agg _=>true
  |_=>false
def yl(P:Program)(kt:TypeId)(a b:PD):Option Bool:=
  match ua a,ua b with
  |true,true=>yf P 20 kt a b
  |false,false=>tO a b
  |_,_=>none
def qC(P:Program)(kt:TypeId)(k:PD):List (PD×PD)->Nat->Option (Option (Nat×PD×PD))
  | [],_=>some none
  |(x,v)::r,i=>
    match yl P kt k x with
    |some true=>some (some (i,x,v))
    |some false=>qC P kt k r (i+1)
    |none=>none
def tC(P:Program):Nat->TypeId->PD->Bool
  |0,_,_=>false
  |d+1,t,k=>
    match P.underlying t,k with
    |some (.int q),.int q' _=>decide (q=q')
    |some .string,.str _=>true
    |some .bool,.bool _=>true
    | some (.struct fs), .agg cs => fs.toList.all fun f => f.name != "_" && (match um P f.type cs f.offset with | some p => tC P d f.type p | none => false)
    |_,_=>false
def sd(P:Program)(t:TypeId)(k:PD):Bool:=tC P 20 t k
def vC:PD->PD->Bool
  | .int k a,.int k' b=>decide (k=k')&&decide (a=b)
  | .str a,.str b=>decide (a=b)
  | .bool a,.bool b=>decide (a=b)
  |_,_=>false
def vD:List PD->List PD->Bool
  | [],[]=>true
  |a::r,b::q=>vC a b&&vD r q
  |_,_=>false
def wa:PD->PD->Bool
  | .agg a,.agg b=>vD a b
  |a,b=>vC a b
def tE(P:Program)(id:Nat)(t:TypeId):M (RV×Ups):=
  match P.underlying t with
  |some (.map kt vt)=>M.bind (M.qf id) fun _=>M.pure (.ptr id 0,[(id,.map kt vt [])])
  |_=>M.fail
def se(P:Program)(t:TypeId)(x k:RV)(ok:Bool):M (RV×Ups):=
  match P.underlying t,x,k with
  |some (.map kt vt),.ptr id 0,.d kp=>M.bind (M.get id) fun
    | .map kt' vt' es=>
      if kt=kt'∧vt=vt'∧sd P kt kp=true then
        (match qC P kt kp es 0, (qQ P vt).bind qW with
         |some (some (_,_,v)),_=>if ok then qu (.tup [.d v,.d (.bool true)])else qu (.d v)
         |some none,some z=>if ok then qu (.tup [.d z,.d (.bool false)])else qu (.d z)
         |_,_=>M.fail)
      else M.fail
    |_=>M.fail
  |_,_,_=>M.fail
def tq(P:Program)(t:TypeId)(x k v:RV):M (RV×Ups):=
  match P.underlying t,x,k with
  |some (.map kt vt),.ptr id 0,.d kp=>M.bind (M.get id) fun
    | .map kt' vt' es=>
      if kt=kt'∧vt=vt'∧sd P kt kp=true then
        M.bind (sD v) fun(p,u)=>
        match qC P kt kp es 0 with
        |some (some (i,x,_))=>if(u.map (·.1)).contains id then M.fail else M.pO (wa kp x) (.undef,u++[(id,.map kt vt (es.set i (kp,p)))])
        |some none=>if(u.map (·.1)).contains id then M.fail else M.pure (.undef,u++[(id,.map kt vt (es++[(kp,p)]))])
        |none=>M.fail
      else M.fail
    |_=>M.fail
  |_,_,_=>M.fail
def rz(P:Program)(id:Nat)(t t':TypeId)(s x:RV):M (RV×Ups):=
  match rf P t with
  |none=>M.fail
  |some e=>
    match szT P e,rZ P e,qQ P e with
    |some (k+1),some (by_+1),some z=>
      if z.cells.size=k+1∧t=t' then
        M.bind (qA x) fun xs=>
        (match s with
         | .mo=>M.bind (M.qf id) fun _=>
           M.pO (decide (xs.length*(by_+1)<=140737488355328)&&xs.all (fun e=>e.cells.length==k+1)) (.ref id 0,[(id,.arr 0 e xs)])
         | .ref id0 ver=>M.bind (M.get id0) fun
           | .arr ver' e' es=>
             if ver=ver'∧e=e' then
               M.pO (decide ((es.length+xs.length)*(by_+1)<=140737488355328)&&xs.all (fun e=>e.cells.length==k+1)) (.ref id0 (ver+1),[(id0,.arr (ver+1) e (es++xs))])
             else M.fail
           |_=>M.fail
         | .fview id0 ver hi=>M.bind (M.get id0) fun
           | .arr ver' e' es=>
             if ver=ver'∧e=e' then
               M.pO (decide (hi<=es.length∧(hi+xs.length)*(by_+1)<=140737488355328)&&xs.all (fun e=>e.cells.length==k+1)) (.d (.lst (es.take hi++xs)),[(id0,.dead)])
             else M.fail
           |_=>M.fail
         | .dfull es=>M.pO (decide ((es.length+xs.length)*(by_+1)<=140737488355328)&&(xs.all (fun e=>e.cells.length==k+1)&&es.all (fun e=>e.cells.length==k+1))) (.d (.lst (es++xs)),[])
         |_=>M.fail)
      else M.fail
    |_,_,_=>M.fail
end Go.Dw
