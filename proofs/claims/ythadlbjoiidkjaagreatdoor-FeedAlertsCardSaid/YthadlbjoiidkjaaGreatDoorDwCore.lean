
import Derived.Orders

namespace Go.Dw
theorem om{p:Prop}(h:p:=by omega):p:=h
theorem sm{p:Prop}(h:p:=by simp):p:=h
theorem so{p:Prop}(h:p:=by simp;omega):p:=h
theorem za{p:Prop}(h:p:=by simp only;omega):p:=h
theorem zb{α β:Type}(a:α)(f:α->Option β):(some a).bind f=f a:=rfl
theorem zc{α:Type}{l:List α}{i:Nat}(h:i<l.length):l[i]? =some l[i]:=List.getElem?_eq_getElem h
inductive PD where
  |bool (b:Bool)
  |int (k:IntKind) (n:Int)
  |str (s:List UInt8)
  |lst (es:List PD)
  |agg (cs:List PD)
  |raw (v:Value)
  deriving Inhabited
inductive RV where
  |d (p:PD)
  |undef
  |junk
  |iZ
  |agg (cs:List RV)
  |tup (cs:List RV)
  |ref (id ver:Nat)
  |ptr (id off:Nat)
  |elt (id ver i o:Nat)
  |cptr (cs:List PD)
  |view (id ver lo hi:Nat)
  |clo (f:FuncId) (cs:List RV)
  |fview (id ver hi:Nat)
  |err (ok:Bool)
  |dfull (es:List PD)
  |ifc (t:TypeId) (c:RV)
  deriving Inhabited
inductive Box where
  |var (cs:List RV)
  |arr (ver:Nat) (e:TypeId) (es:List PD)
  |dead
  |map (kt vt:TypeId) (es:List (PD×PD))
  deriving Inhabited
abbrev jk:=Nat->Option Box
abbrev Ups:=List (Nat×Box)
def M(α:Type):Type:=jk->Option (α×List Nat×Bool)
namespace M
def pure{α:Type}(a:α):M α:=fun _=>some (a,[],true)
def bind{α β:Type}(m:M α)(f:α->M β):M β:=fun b=>
  match m b with
  |some (a,r,c)=>
    match f a b with
    |some (x,r',c')=>some (x,r++r',c&&c')
    |none=>none
  |none=>none
def fail{α:Type}:M α:=fun _=>none
def get(id:Nat):M Box:=fun b=>match b id with|some x=>some (x,[id],true)|none=>none
def js(id:Nat):M Unit:=fun b=>match b id with|some _=>none|none=>some ((),[id],true)
def jb{α:Type}(c:Bool)(a:α):M α:=fun _=>some (a,[],c)
end M
def PD.cells:PD->List PD
  | .agg cs=>cs
  |p=>[p]
def PD.one:PD->Bool
  | .agg _=>false
  |_=>true
def RV.cells:RV->List RV
  | .agg cs=>cs
  | .d (.agg cs)=>cs.map .d
  |v=>[v]
def RV.one:RV->Bool
  | .d p=>p.one
  | .iZ| .ref _ _| .ptr _ _| .elt _ _ _ _| .cptr _| .view _ _ _ _| .clo _ _| .fview _ _ _| .err _| .ifc _ _=>true
  |_=>false
def RV.sized(v:RV):Bool:=v.cells.all RV.one
def nil0:PD:= .raw (.slice none 0 0)
def isNils:RV->Bool
  | .iZ=>true
  |_=>false
inductive NC where
  |row (e:TypeId) (es:List PD)
  |val (v:RV)
def ncs(e2:TypeId)(ess:List (List PD)):Option (Nat×RV)->List NC
  |none=>ess.map (.row e2)
  |some (i,rv)=>(ess.map (.row e2)).set i (.val rv)
def mQ:List RV->Option (List PD)
  | []=>some []
  | .d p::r=>match mQ r with|some l=>some (p::l)|none=>none
  |_=>none
def sw(cs:List RV):RV:=match mQ cs with|some l=>.d (.agg l)|none=>.agg cs
def nG:RV->M (PD×Ups)
  | .d p=>M.pure (p,[])
  | .iZ=>M.pure (.lst [],[])
  | .ref id ver=>M.bind (M.get id) fun
    | .arr ver' _ es=>if ver=ver' then M.pure (.lst es,[(id,.dead)])else M.fail
    |_=>M.fail
  | .view id ver lo hi=>M.bind (M.get id) fun
    | .arr ver' _ es=>if ver=ver' then M.jb (decide (lo<=hi∧hi<=es.length)) (.lst ((es.drop lo).take (hi-lo)),[(id,.dead)])else M.fail
    |_=>M.fail
  |_=>M.fail
def lM:List RV->M (List PD×Ups)
  | []=>M.pure ([],[])
  |c::r=>M.bind (nG c) fun(p,u)=>M.bind (lM r) fun(ps,us)=>M.pure (p::ps,u++us)
def px(cs:List RV):Bool:= !cs.isEmpty&&cs.all isNils
def nP(mt:Bool)(cs:List RV):M (List PD×Ups):=if mt&&px cs then M.pure (cs.map fun _=>nil0,[])else lM cs
def kP(v:RV):M (PD×Ups):=
  match v with
  | .agg cs=>M.bind (lM cs) fun(ps,u)=>M.pure (.agg ps,u)
  |v=>nG v
def jt(P:Program)(t:TypeId):Bool:=
  match P.underlying t with
  |some (.struct _)|some (.array _ _)=>true
  |_=>false
def szT(P:Program)(t:TypeId):Option Nat:=(P.info? t).map (·.size)
def kG(P:Program)(t:TypeId):Option Nat:=(P.info? t).map (·.bytes)
def jS(P:Program)(t:TypeId):Option Value:=(P.info? t).bind (·.zero)
def ke(P:Program)(t:TypeId):Option TypeId:=
  match P.underlying t with
  |some (.slice e)=>some e
  |_=>none
def ks:Value->RV
  | .bool b=>.d (.bool b)
  | .int k n=>.d (.int k n)
  | .string s=>.d (.str s.data.toList)
  | .slice none 0 0=>.iZ
  | .func (.func f) ⟨[]⟩ ⟨[]⟩=>.d (.raw (.func (.func f) #[] #[]))
  | .nilFunc=>.d (.raw .nilFunc)
  | .nilIface=>.d (.raw .nilIface)
  | .pointer none=>.d (.raw (.pointer none))
  | .map none=>.d (.raw (.map none))
  |_=>.junk
def jA:Value->RV
  | .agg cs=>.agg (cs.toList.map ks)
  |v=>ks v
def andI(k:IntKind)(x y:Int):Int:=k.wrap (((BitVec.ofInt k.bits x &&& BitVec.ofInt k.bits y).toNat:Nat):Int)
def orI(k:IntKind)(x y:Int):Int:=k.wrap (((BitVec.ofInt k.bits x ||| BitVec.ofInt k.bits y).toNat:Nat):Int)
def xorI(k:IntKind)(x y:Int):Int:=k.wrap (((BitVec.ofInt k.bits x ^^^ BitVec.ofInt k.bits y).toNat:Nat):Int)
def qU(k:IntKind)(x y:Int):Int:=k.wrap (((BitVec.ofInt k.bits x &&& ~~~ BitVec.ofInt k.bits y).toNat:Nat):Int)
def shlI(k:IntKind)(x y:Int):Int:=k.wrap (x*2 ^ (min y.toNat k.bits))
def shrI(k:IntKind)(x y:Int):Int:=x.fdiv (2 ^ (min y.toNat k.bits))
def pT(op:BinOp)(k:IntKind)(x y:Int):Option (PD×Bool):=
  match op with
  | .add=>some (.int k (k.wrap (x+y)),true)
  | .sub=>some (.int k (k.wrap (x-y)),true)
  | .mul=>some (.int k (k.wrap (x*y)),true)
  | .quo=>some (.int k (k.wrap (x.tdiv y)),y != 0)
  | .rem=>some (.int k (x.tmod y),y != 0)
  | .eql=>some (.bool (x==y),true)
  | .neq=>some (.bool (x != y),true)
  | .lss=>some (.bool (decide (x<y)),true)
  | .leq=>some (.bool (decide (x<=y)),true)
  | .gtr=>some (.bool (decide (x>y)),true)
  | .geq=>some (.bool (decide (x>=y)),true)
  | .and=>some (.int k (andI k x y),true)
  | .or=>some (.int k (orI k x y),true)
  | .xor=>some (.int k (xorI k x y),true)
  | .andNot=>some (.int k (qU k x y),true)
  |_=>none
def rF(op:BinOp)(x y:List UInt8):Option (PD×Bool):=
  match op with
  | .add=>some (.str (x++y),decide (((x.length+y.length:Nat):Int)<=IntKind.i64.max))
  | .eql=>some (.bool (x==y),true)
  | .neq=>some (.bool !(x==y),true)
  | .lss=>some (.bool (Op.bytesLess x y),true)
  | .leq=>some (.bool (Op.bytesLess x y||x==y),true)
  | .gtr=>some (.bool !(Op.bytesLess x y||x==y),true)
  | .geq=>some (.bool !(Op.bytesLess x y),true)
  |_=>none
def rR(op:BinOp)(x y:RV):Option (PD×Bool):=
  match x,y with
  | .d (.int k a),.d (.int k' b)=>(match op with| .shl=>some (.int k (shlI k a b),decide (0<=b))| .shr=>some (.int k (shrI k a b),decide (0<=b))|op=>if k=k' then pT op k a b else none)
  | .d (.str a),.d (.str b)=>rF op a b
  |_,_=>none
def mK(o:Option (PD×Bool)):M (RV×Ups):=match o with|some (p,c)=>M.jb c (.d p,[])|none=>M.fail
def jH(v:RV):M (RV×Ups):=M.pure (v,[])
def jz(c:Bool)(v:RV):M (RV×Ups):=M.jb c (v,[])
def lI(P:Program)(t:TypeId):Option (Bool×Nat):=
  match P.underlying t,szT P t with
  |some _,some n=>some (jt P t,n)
  |_,_=>none
def lk(P:Program)(t:TypeId)(cs:List PD):M (RV×Ups):=
  match lI P t with
  |none=>M.fail
  |some (true,n)=>jz (decide (n<=cs.length)) (.d (.agg (cs.take n)))
  |some (false,_)=>match cs with|c::_=>jH (.d c)| []=>M.fail
def kJ(P:Program)(t:TypeId)(cs:List RV)(off:Nat):M (RV×Ups):=
  match lI P t with
  |none=>M.fail
  |some (true,n)=>jz (decide (off+n<=cs.length)) (sw ((cs.drop off).take n))
  |some (false,_)=>match cs[off]? with|some c=>jH c|none=>M.fail
def l8(P:Program)(t:TypeId)(cs:List PD)(off:Nat):Option PD:=
  match lI P t with
  |some (true,n)=>if off+n<=cs.length then some (.agg ((cs.drop off).take n))else none
  |some (false,_)=>cs[off]?
  |none=>none
def eqFs(P:Program)(rec:TypeId->PD->PD->Option Bool)(xs ys:List PD):List Field->Option Bool
  | []=>some true
  |f::r=>
    if f.name = "_" then none else
    match l8 P f.type xs f.offset,l8 P f.type ys f.offset with
    |some a,some b=>(match rec f.type a b,eqFs P rec xs ys r with|some p,some q=>some (p&&q)|_,_=>none)
    |_,_=>none
def qy(P:Program)(rec:PD->PD->Option Bool)(e:TypeId)(k:Nat)(xs ys:List PD):List Nat->Option Bool
  | []=>some true
  |i::r=>
    match l8 P e xs (i*k),l8 P e ys (i*k)with
    |some a,some b=>(match rec a b,qy P rec e k xs ys r with|some p,some q=>some (p&&q)|_,_=>none)
    |_,_=>none
def pO(P:Program):Nat->TypeId->PD->PD->Option Bool
  |0,_,_,_=>none
  |d+1,t,x,y=>
    match P.underlying t,x,y with
    |some .bool,.bool a,.bool b=>some (a==b)
    |some (.int _),.int k a,.int k' b=>if k=k' then some (a==b)else none
    |some .string,.str a,.str b=>some (a==b)
    |some (.struct fs),.agg xs,.agg ys=>if P.stoodInHeld t then none else eqFs P (pO P d) xs ys fs.toList
    |some (.array n e),.agg xs,.agg ys=>(match P.info? e with|some _=>qy P (pO P d e) e (P.cellsOf e) xs ys (List.range n)|none=>none)
    |_,_,_=>none
def eqOp(P:Program)(op:BinOp)(t:TypeId)(x y:RV):Option (PD×Bool):=
  match op,x,y with
  | .eql,.d (.bool a),.d (.bool b)=>(match pO P 1 t (.bool a) (.bool b)with|some r=>some (.bool r,true)|none=>none)
  | .neq,.d (.bool a),.d (.bool b)=>(match pO P 1 t (.bool a) (.bool b)with|some r=>some (.bool !r,true)|none=>none)
  | .eql,.d (.agg a),.d (.agg b)=>if P.eqGuardType P.depth t then none else(match pO P 20 t (.agg a) (.agg b)with|some r=>some (.bool r,true)|none=>none)
  | .neq,.d (.agg a),.d (.agg b)=>if P.eqGuardType P.depth t then none else(match pO P 20 t (.agg a) (.agg b)with|some r=>some (.bool !r,true)|none=>none)
  | .eql,.d (.lst es),.iZ=>(match P.underlying t with|some (.slice _)=>some (.bool false, !es.isEmpty)|_=>none)
  | .neq,.d (.lst es),.iZ=>(match P.underlying t with|some (.slice _)=>some (.bool true, !es.isEmpty)|_=>none)
  | .eql,.iZ,.iZ=>(match P.underlying t with|some (.slice _)=>some (.bool true,true)|_=>none)
  | .neq,.iZ,.iZ=>(match P.underlying t with|some (.slice _)=>some (.bool false,true)|_=>none)
  |_,_,_=>none
def pJ(P:Program)(op:BinOp)(t:TypeId)(x y:RV):Option (PD×Bool):=
  match rR op x y with
  |some r=>some r
  |none=>eqOp P op t x y
def isC:Operand->Bool
  | .const _=>true
  |_=>false
def tF(P:Program)(op:BinOp)(t:TypeId)(c:Bool)(a b:RV):Option (PD×Bool):=
  match P.underlying t,op,a,b with
  |some (.interface _),.eql,.err b,.d (.raw .nilIface)=>some (.bool b,c|| !b)
  |some (.interface _),.neq,.err b,.d (.raw .nilIface)=>some (.bool !b,c|| !b)
  |some (.interface _),.eql,.d (.raw .nilIface),.d (.raw .nilIface)=>some (.bool true,c)
  |some (.interface _),.neq,.d (.raw .nilIface),.d (.raw .nilIface)=>some (.bool false,c)
  |_,_,_,_=>none
def binX(P:Program)(op:BinOp)(t:TypeId)(x y:Operand)(a b:RV):Option (PD×Bool):=
  match pJ P op t a b with
  |some r=>some r
  |none=>tF P op t (isC x||isC y) a b
def l7(P:Program)(t:TypeId)(a:RV):M (RV×Ups):=
  match a with
  | .cptr cs=>lk P t cs
  | .ptr id off=>M.bind (M.get id) fun
    | .var cs=>kJ P t cs off
    |_=>M.fail
  | .elt id ver i o=>M.bind (M.get id) fun
    | .arr ver' _ es=>
      if ver=ver' then(match es[i]? with|some e=>lk P t (e.cells.drop o)|none=>M.fail)
      else M.fail
    |_=>M.fail
  |_=>M.fail
def setCells(cs:List RV)(off:Nat):List RV->List RV
  | []=>cs
  |v::r=>setCells (cs.set off v) (off+1) r
def kX(cs:List PD)(off:Nat):List PD->List PD
  | []=>cs
  |v::r=>kX (cs.set off v) (off+1) r
def PD.put(e:PD)(o:Nat)(vs:List PD):PD:=
  match e with
  | .agg cs=>.agg (kX cs o vs)
  |e=>vs.headD e
def mE(P:Program)(t:TypeId)(a v:RV):M (RV×Ups):=
  match szT P t with
  |none=>M.fail
  |some n=>
    match a with
    | .ptr id off=>M.bind (M.get id) fun
      | .var cs=>M.jb (v.sized&&decide (v.cells.length=n∧off+n<=cs.length)) (.undef,[(id,.var (setCells cs off v.cells))])
      |_=>M.fail
    | .elt id ver i o=>M.bind (M.get id) fun
      | .arr ver' e es=>
        if ver=ver' then
          M.bind (kP v) fun(p,u)=>
          match es[i]? with
          |some x=>if(u.map (·.1)).contains id then M.fail else M.jb (v.sized&&decide (p.cells.length=n∧o+n<=x.cells.length)) (.undef,u++[(id,.arr ver' e (es.set i (x.put o p.cells)))])
          |none=>M.fail
        else M.fail
      |_=>M.fail
    |_=>M.fail
def l6(P:Program)(t:TypeId)(f:Nat):Option (Nat×TypeId):=
  match P.underlying t with
  |some (.struct fs)=>(match fs[f]? with|some x=>some (x.offset,x.type)|none=>none)
  |_=>none
def nF(off:Nat)(x:RV):M (RV×Ups):=
  match x with
  | .ptr id o=>M.bind (M.get id) fun
    | .var _=>jH (.ptr id (o+off))
    |_=>M.fail
  | .elt id ver i o=>M.bind (M.get id) fun
    | .arr ver' _ _=>if ver=ver' then jH (.elt id ver i (o+off))else M.fail
    |_=>M.fail
  | .cptr cs=>jH (.cptr (cs.drop off))
  |_=>M.fail
def kx(P:Program)(t:TypeId)(x:RV)(f:Nat):M (RV×Ups):=
  match l6 P t f with
  |none=>M.fail
  |some (off,ft)=>
    match szT P ft with
    |some (_+1)=>nF off x
    |_=>M.fail
def l5:RV->Option (List RV)
  | .agg cs=>some cs
  | .d (.agg cs)=>some (cs.map .d)
  |_=>none
def nL(P:Program)(t:TypeId)(x:RV)(f:Nat):M (RV×Ups):=
  match l6 P t f,l5 x with
  |some (off,ft),some cs=>kJ P ft cs off
  |_,_=>M.fail
def nN(x i:RV):M (RV×Ups):=
  match x,i with
  | .d (.str s),.d (.int _ n)=>jz (decide (0<=n∧n<s.length)) (.d (.int .u8 ((s.getD n.toNat 0).toNat:Nat)))
  |_,_=>M.fail
def oF(P:Program)(len:Nat)(e:TypeId)(x i:RV):M (RV×Ups):=
  match l5 x,i,szT P e with
  |some cs,.d (.int _ n),some k=>M.bind (M.jb (decide (0<=n∧n<len)) ()) fun _=>kJ P e cs (n.toNat*k)
  |_,_,_=>M.fail
def mW(P:Program)(t:TypeId)(x i:RV):M (RV×Ups):=
  match P.underlying t with
  |some .string=>nN x i
  |some (.array len e)=>oF P len e x i
  |_=>M.fail
def jU(P:Program)(t:TypeId)(x i:RV):M (RV×Ups):=
  match P.underlying t,i with
  |some (.slice e),.d (.int _ n)=>
    (match szT P e with
     |none=>M.fail
     |some k=>
       match x with
       | .d (.lst es)=>jz (decide (0<=n∧n<es.length)&&((es.getD n.toNat default).cells.length==k)) (.cptr (es.getD n.toNat default).cells)
       | .ref id ver=>M.bind (M.get id) fun
         | .arr ver' e' es=>if ver=ver'∧e=e' then jz (decide (0<=n∧n<es.length)) (.elt id ver n.toNat 0)else M.fail
         |_=>M.fail
       | .view id ver lo hi=>M.bind (M.get id) fun
         | .arr ver' e' es=>if ver=ver'∧e=e' then jz (decide (0<=n∧n<(hi:Int)-lo∧hi<=es.length)) (.elt id ver (lo+n.toNat) 0)else M.fail
         |_=>M.fail
       |_=>M.fail)
  |some (.array len e),.d (.int _ n)=>
    (match szT P e with
     |some k=>M.bind (M.jb (decide (0<=n∧n<len)) ()) fun _=>nF (n.toNat*k) x
     |none=>M.fail)
  |_,_=>M.fail
def bnd(o:Option RV)(dflt:Int):Option Int:=
  match o with
  |none=>some dflt
  |some (.d (.int _ n))=>some n
  |_=>none
def cut{α:Type}(l:List α)(lo:Nat)(hi:Option Nat):List α:=
  match hi with
  |none=>l.drop lo
  |some h=>(l.drop lo).take (h-lo)
def hiOf(o:Option RV)(h:Int):Option Nat:=match o with|none=>none|some _=>some h.toNat
def sliceB(P:Program)(e:TypeId)(id ver a b:Nat)(lo hi:Option RV):M (RV×Ups):=
  match bnd lo 0,bnd hi ((b:Int)-a),szT P e with
  |some l,some h,some (_+1)=>M.bind (M.get id) fun
    | .arr ver' e' es=>if ver=ver'∧e=e' then jz (decide (a<=b∧b<=es.length∧0<=l∧l<=h∧h<=(b:Int)-a)) (.view id ver (a+l.toNat) (a+h.toNat))else M.fail
    |_=>M.fail
  |_,_,_=>M.fail
def oQ(P:Program)(nid:Nat)(e:TypeId)(n:Nat)(lo hi mx:Option RV):M (RV×Ups):=
  match bnd lo 0,hi,mx,szT P e with
  |some l,some (.d (.int _ h)),some (.d (.int _ m)),some (_+1)=>
    if l=0∧h=0∧m=0 then M.bind (M.js nid) fun _=>M.jb (decide (0<=n)) (.ref nid 0,[(nid,.arr 0 e [])])else M.fail
  |_,_,_,_=>M.fail
def jR(P:Program)(e:TypeId)(k:Nat):Nat->List PD->List PD
  |0,_=>[]
  |n+1,cs=>(if jt P e then .agg (cs.take k)else cs.headD default)::jR P e k n (cs.drop k)
def nT(P:Program)(id:Nat)(a:TypeId):M (RV×Ups):=
  match P.underlying a with
  |some (.array n e)=>
    (match szT P e with
     |some (k+1)=>M.bind (M.get id) fun
       | .var cs => (match mQ cs with
         |some ps=>if jt P e=true∨k=0 then M.jb (decide (ps.length=n*(k+1))&&ps.all PD.one) (.d (.lst (jR P e (k+1) n ps)),[(id,.dead)])else M.fail
         |none=>M.fail)
       |_=>M.fail
     |_=>M.fail)
  |_=>M.fail
def nV(P:Program)(e:TypeId)(id ver:Nat)(lo hi:Option RV)(mx:RV):M (RV×Ups):=
  match lo,hi,mx,szT P e with
  |none,some (.d (.int _ h)),.d (.int _ m),some (_+1)=>
    if h=m then M.bind (M.get id) fun
      | .arr ver' e' es=>if ver=ver'∧e=e' then M.jb (decide (0<=h∧h<=es.length)) (.fview id ver h.toNat,[])else M.fail
      |_=>M.fail
    else M.fail
  |_,_,_,_=>M.fail
def nU(P:Program)(a:TypeId)(cs:List PD):M (RV×Ups):=
  match P.underlying a with
  |some (.array n e)=>
    (match szT P e with
     |some (k+1)=>if jt P e=true∨k=0 then M.jb (decide (n*(k+1)<=cs.length)&&(cs.take (n*(k+1))).all PD.one) (.d (.lst (jR P e (k+1) n (cs.take (n*(k+1))))),[])else M.fail
     |_=>M.fail)
  |_=>M.fail
def pS(P:Program)(e:TypeId)(es:List PD)(h m:Int):M (RV×Ups):=
  match szT P e with
  |some (_+1)=>if h=m then M.jb (decide (h=es.length)) (.dfull es,[])else M.fail
  |_=>M.fail
def pk(P:Program)(t:TypeId)(x:RV)(lo hi mx:Option RV):M (RV×Ups):=
  match P.underlying t,x,lo,hi,mx with
  |some (.slice e),.ref id ver,none,some (.d (.int _ h)),none=>
    (match szT P e with
     |some (_+1)=>M.bind (M.get id) fun
       | .arr ver' e' es=>if ver=ver'∧e=e' then M.jb (decide (0<=h∧h<=es.length)) (.ref id (ver+1),[(id,.arr (ver+1) e (es.take h.toNat))])else M.fail
       |_=>M.fail
     |_=>M.fail)
  |some (.slice e),.d (.lst es),none,some (.d (.int _ h)),some (.d (.int _ m))=>pS P e es h m
  |_,_,_,_,_=>M.fail
def jV(P:Program)(nid:Nat)(t:TypeId)(x:RV)(lo hi mx:Option RV):M (RV×Ups):=
  match P.underlying t,x,mx with
  |some (.slice e),.ref id ver,none=>M.bind (M.get id) fun
    | .arr _ _ es=>sliceB P e id ver 0 es.length lo hi
    |_=>M.fail
  |some (.slice e),.view id ver a b,none=>sliceB P e id ver a b lo hi
  |some (.array _ _),.ptr id 0,none=>(match lo,hi with|none,none=>nT P id t|_,_=>M.fail)
  |some (.array _ _),.cptr cs,none=>(match lo,hi with|none,none=>nU P t cs|_,_=>M.fail)
  | some (.slice e), .iZ, none => (match bnd lo 0, hi, szT P e with
    |some l,some (.d (.int _ h)),some _=>if l=0∧h=0 then M.pure (.iZ,[])else M.fail
    |_,_,_=>M.fail)
  |some (.slice e),.d (.lst es),some m=>oQ P nid e es.length lo hi (some m)
  |some (.slice e),.ref id ver,some m=>nV P e id ver lo hi m
  |some .string,.d (.str s),none=>
    (match bnd lo 0, bnd hi s.length with
     |some l,some h=>jz (decide (0<=l∧l<=h∧h<=s.length)) (.d (.str (cut s l.toNat (hiOf hi h))))
     |_,_=>M.fail)
  |some (.slice e),.d (.lst es),none=>
    (match bnd lo 0, bnd hi es.length, szT P e with
     |some l,some h,some k=>jz (decide (0<=l∧l<=h∧h<=es.length)&&es.all (fun e=>e.cells.length==k)) (.d (.lst (cut es l.toNat (hiOf hi h))))
     |_,_,_=>M.fail)
  |_,_,_=>M.fail
def nE(place:Nat->Option (Nat×Nat))(cs:List RV):List (Nat×RV)->Option (List RV)
  | []=>some cs
  |(i,v)::r=>
    match place i with
    |some (off,k)=>if v.cells.length=k∧off+k<=cs.length then nE place (setCells cs off v.cells) r else none
    |none=>none
def ru(P:Program)(fs:Array Field)(i:Nat):Option (Nat×Nat):=
  match fs[i]? with
  |some f=>(match szT P f.type with|some k=>some (f.offset,k)|none=>none)
  |none=>none
def lf(parts:List (Nat×RV)):Bool:=parts.all fun x=>x.2.sized
def nK(P:Program)(t:TypeId)(parts:List (Nat×RV)):M (RV×Ups):=
  match P.underlying t,jS P t with
  |some (.struct fs),some z=>
    if fs.toList.all fun f=>(szT P f.type).isSome then
      (match nE (ru P fs) (jA z).cells parts with
       |some cs=>jz (lf parts) (sw cs)
       |none=>M.fail)
    else M.fail
  |some (.array _ e),some z=>
    (match szT P e with
     | some k => (match nE (fun i => some (i * k, k)) (jA z).cells parts with
       |some cs=>jz (lf parts) (sw cs)
       |none=>M.fail)
     |none=>M.fail)
  |_,_=>M.fail
def j7(P:Program)(mt:Bool)(id:Nat)(t:TypeId)(len:Nat)(parts:List (Nat×RV)):M (RV×Ups):=
  match ke P t with
  |none=>M.fail
  |some e=>
    match szT P e,jS P e with
    |some (k+1),some z=>
      if len*(k+1)<=2 ^ 24∧z.cells.size=k+1∧(jt P e=true∨k=0)then
        (match nE (fun i => some (i * (k + 1), k + 1)) (List.replicate len (jA z).cells).flatten parts with
         |some cs=>M.bind (nP mt cs) fun(ps,u)=>
           if mt&& !px cs then M.bind (M.js id) fun _=>M.jb (lf parts&&ps.all PD.one) (.ref id 0,u++[(id,.arr 0 e (jR P e (k+1) len ps))])
           else M.jb (lf parts&&ps.all PD.one) (.d (.lst (jR P e (k+1) len ps)),u)
         |none=>M.fail)
      else M.fail
    |_,_=>M.fail
def nI(P:Program)(id:Nat)(t:TypeId):M (RV×Ups):=
  match jS P t with
  |some z=>M.bind (M.js id) fun _=>M.pure (.ptr id 0,[(id,.var (jA z).cells)])
  |none=>M.fail
def boxD(id:Nat)(v:RV):M (RV×Ups):=
  M.bind (M.js id) fun _=>M.jb v.sized (.ptr id 0,[(id,.var v.cells)])
def lenD(P:Program)(t:TypeId)(x:RV):M (RV×Ups):=
  match P.underlying t,x with
  |some .string,.d (.str s)=>jH (.d (.int .i64 s.length))
  |some (.slice _),.d (.lst es)=>jH (.d (.int .i64 es.length))
  |some (.slice _),.iZ=>jH (.d (.int .i64 0))
  |some (.slice _),.ref id ver=>M.bind (M.get id) fun
    | .arr ver' _ es=>if ver=ver' then jH (.d (.int .i64 es.length))else M.fail
    |_=>M.fail
  |some (.slice _),.view id ver lo hi=>M.bind (M.get id) fun
    | .arr ver' _ es=>if ver=ver' then jz (decide (lo<=hi∧hi<=es.length)) (.d (.int .i64 ((hi:Int)-lo)))else M.fail
    |_=>M.fail
  |some (.map _ _),.ptr id 0=>M.bind (M.get id) fun
    | .map _ _ es=>jH (.d (.int .i64 es.length))
    |_=>M.fail
  |_,_=>M.fail
def kF(x:RV):M (List PD):=
  match x with
  | .d (.lst es)=>M.pure es
  | .iZ=>M.pure []
  | .ref id ver=>M.bind (M.get id) fun
    | .arr ver' _ es=>if ver=ver' then M.pure es else M.fail
    |_=>M.fail
  | .view id ver lo hi=>M.bind (M.get id) fun
    | .arr ver' _ es=>if ver=ver' then M.jb (decide (lo<=hi∧hi<=es.length)) ((es.drop lo).take (hi-lo))else M.fail
    |_=>M.fail
  |_=>M.fail
def pr(x:RV):M (Nat×Nat×TypeId×List PD×Nat×Nat):=
  match x with
  | .ref id ver=>M.bind (M.get id) fun
    | .arr ver' e es=>if ver=ver' then M.pure (id,ver,e,es,0,es.length)else M.fail
    |_=>M.fail
  | .view id ver lo hi=>M.bind (M.get id) fun
    | .arr ver' e es=>if ver=ver' then M.jb (decide (lo<=hi∧hi<=es.length)) (id,ver,e,es,lo,hi-lo)else M.fail
    |_=>M.fail
  |_=>M.fail
def oU(P:Program)(t:TypeId)(x y:RV):M (RV×Ups):=
  match ke P t with
  | some e => (match szT P e with
    |some (k+1)=>M.bind (pr x) fun d=>M.bind (kF y) fun ys=>
      M.jb (decide (e=d.2.2.1)&&ys.all fun c=>c.cells.length==k+1)
        (.d (.int .i64 (Nat.min ys.length d.2.2.2.2.2:Nat)),[(d.1,.arr d.2.1 d.2.2.1 (d.2.2.2.1.take d.2.2.2.2.1++ys.take (Nat.min ys.length d.2.2.2.2.2)++d.2.2.2.1.drop (d.2.2.2.2.1+Nat.min ys.length d.2.2.2.2.2)))])
    |_=>M.fail)
  |none=>M.fail
def minL:Int->List RV->Option Int
  |n,[]=>some n
  |n,.d (.int _ m)::r=>minL (if m<n then m else n) r
  |_,_::_=>none
def maxL:Int->List RV->Option Int
  |n,[]=>some n
  |n,.d (.int _ m)::r=>maxL (if m>n then m else n) r
  |_,_::_=>none
def minD:List RV->M (RV×Ups)
  | .d (.int k n)::r=>(match minL n r with|some m=>M.pure (.d (.int k m),[])|none=>M.fail)
  |_=>M.fail
def maxD:List RV->M (RV×Ups)
  | .d (.int k n)::r=>(match maxL n r with|some m=>M.pure (.d (.int k m),[])|none=>M.fail)
  |_=>M.fail
def oz(v:Value):Option PD:=
  match ks v with
  | .d p=>some p
  | .iZ=>some (.lst [])
  |_=>none
def nr:List Value->Option (List PD)
  | []=>some []
  |v::r=>match oz v,nr r with
    |some p,some l=>some (p::l)
    |_,_=>none
def jW:Value->Option PD
  | .agg cs=>(nr cs.toList).map .agg
  |v=>oz v
def lR(P:Program)(t:TypeId)(x:RV):M (RV×Ups):=
  match ke P t with
  | some e => (match szT P e, (jS P e).bind jW with
    |some (k+1),some z=>M.bind (pr x) fun d=>
      M.jb (decide (e=d.2.2.1)&&(z.cells.length==k+1))
        (.tup [],[(d.1,.arr d.2.1 d.2.2.1 (d.2.2.2.1.take d.2.2.2.2.1++List.replicate d.2.2.2.2.2 z++d.2.2.2.1.drop (d.2.2.2.2.1+d.2.2.2.2.2)))])
    |_,_=>M.fail)
  |none=>M.fail
def j8(P:Program)(id:Nat)(t:TypeId)(l c:RV):M (RV×Ups):=
  match ke P t,l,c with
  |some e,.d (.int _ n),.d (.int _ m)=>
    (match szT P e, kG P e, (jS P e).bind jW with
     |some (k+1),some b,some z=>M.bind (M.js id) fun _=>
       M.jb (decide (n<=m∧0<=n∧m.toNat*b<=140737488355328∧m.toNat<=140737488355328)&&(z.cells.length==k+1)) (.ref id 0,[(id,.arr 0 e (List.replicate n.toNat z))])
     |_,_,_=>M.fail)
  |_,_,_=>M.fail
def nA(P:Program)(id:Nat)(t t':TypeId)(s x:RV):M (RV×Ups):=
  match ke P t,P.underlying t',s,x with
  |some e,some (.int _),.iZ,.d (.int _ n)=>
    (match szT P e, kG P e, (jS P e).bind jW with
     |some (k+1),some b,some z=>M.bind (M.js id) fun _=>
       M.jb (decide (0<n∧n.toNat*b<=140737488355328∧n.toNat<=140737488355328)&&(z.cells.length==k+1)) (.ref id 0,[(id,.arr 0 e (List.replicate n.toNat z))])
     |_,_,_=>M.fail)
  |_,_,_,_=>M.fail
def capD(P:Program)(t:TypeId)(x:RV):M (RV×Ups):=
  match P.underlying t,x with
  |some (.slice _),.iZ=>jH (.d (.int .i64 0))
  |_,_=>M.fail
def lH:PD->PD->Option Bool
  | .int k a,.int k' b=>if k=k' then some (a==b)else none
  | .str a,.str b=>some (a==b)
  | .bool a,.bool b=>some (a==b)
  |_,_=>none
def lW:PD->Bool
  | .agg _=>true
  |_=>false
def pU(P:Program)(kt:TypeId)(a b:PD):Option Bool:=
  match lW a,lW b with
  |true,true=>pO P 20 kt a b
  |false,false=>lH a b
  |_,_=>none
def jM(P:Program)(kt:TypeId)(k:PD):List (PD×PD)->Nat->Option (Option (Nat×PD×PD))
  | [],_=>some none
  |(x,v)::r,i=>
    match pU P kt k x with
    |some true=>some (some (i,x,v))
    |some false=>jM P kt k r (i+1)
    |none=>none
def ly(P:Program):Nat->TypeId->PD->Bool
  |0,_,_=>false
  |d+1,t,k=>
    match P.underlying t,k with
    |some (.int q),.int q' _=>decide (q=q')
    |some .string,.str _=>true
    |some .bool,.bool _=>true
    | some (.struct fs), .agg cs => fs.toList.all fun f => f.name != "_" && (match l8 P f.type cs f.offset with | some p => ly P d f.type p | none => false)
    |_,_=>false
def kH(P:Program)(t:TypeId)(k:PD):Bool:=ly P 20 t k
def mz:PD->PD->Bool
  | .int k a,.int k' b=>decide (k=k')&&decide (a=b)
  | .str a,.str b=>decide (a=b)
  | .bool a,.bool b=>decide (a=b)
  |_,_=>false
def mA:List PD->List PD->Bool
  | [],[]=>true
  |a::r,b::q=>mz a b&&mA r q
  |_,_=>false
def nf:PD->PD->Bool
  | .agg a,.agg b=>mA a b
  |a,b=>mz a b
def lz(P:Program)(id:Nat)(t:TypeId):M (RV×Ups):=
  match P.underlying t with
  |some (.map kt vt)=>M.bind (M.js id) fun _=>M.pure (.ptr id 0,[(id,.map kt vt [])])
  |_=>M.fail
def kI(P:Program)(t:TypeId)(x k:RV)(ok:Bool):M (RV×Ups):=
  match P.underlying t,x,k with
  |some (.map kt vt),.ptr id 0,.d kp=>M.bind (M.get id) fun
    | .map kt' vt' es=>
      if kt=kt'∧vt=vt'∧kH P kt kp=true then
        (match jM P kt kp es 0, (jS P vt).bind jW with
         |some (some (_,_,v)),_=>if ok then jH (.tup [.d v,.d (.bool true)])else jH (.d v)
         |some none,some z=>if ok then jH (.tup [.d z,.d (.bool false)])else jH (.d z)
         |_,_=>M.fail)
      else M.fail
    |_=>M.fail
  |_,_,_=>M.fail
def lq(P:Program)(t:TypeId)(x k v:RV):M (RV×Ups):=
  match P.underlying t,x,k with
  |some (.map kt vt),.ptr id 0,.d kp=>M.bind (M.get id) fun
    | .map kt' vt' es=>
      if kt=kt'∧vt=vt'∧kH P kt kp=true then
        M.bind (kP v) fun(p,u)=>
        match jM P kt kp es 0 with
        |some (some (i,x,_))=>if(u.map (·.1)).contains id then M.fail else M.jb (nf kp x) (.undef,u++[(id,.map kt vt (es.set i (kp,p)))])
        |some none=>if(u.map (·.1)).contains id then M.fail else M.pure (.undef,u++[(id,.map kt vt (es++[(kp,p)]))])
        |none=>M.fail
      else M.fail
    |_=>M.fail
  |_,_,_=>M.fail
def kE(P:Program)(id:Nat)(t t':TypeId)(s x:RV):M (RV×Ups):=
  match ke P t with
  |none=>M.fail
  |some e=>
    match szT P e,kG P e,jS P e with
    |some (k+1),some (by_+1),some z=>
      if z.cells.size=k+1∧t=t' then
        M.bind (kF x) fun xs=>
        (match s with
         | .iZ=>M.bind (M.js id) fun _=>
           M.jb (decide (xs.length*(by_+1)<=140737488355328)&&xs.all (fun e=>e.cells.length==k+1)) (.ref id 0,[(id,.arr 0 e xs)])
         | .ref id0 ver=>M.bind (M.get id0) fun
           | .arr ver' e' es=>
             if ver=ver'∧e=e' then
               M.jb (decide ((es.length+xs.length)*(by_+1)<=140737488355328)&&xs.all (fun e=>e.cells.length==k+1)) (.ref id0 (ver+1),[(id0,.arr (ver+1) e (es++xs))])
             else M.fail
           |_=>M.fail
         | .fview id0 ver hi=>M.bind (M.get id0) fun
           | .arr ver' e' es=>
             if ver=ver'∧e=e' then
               M.jb (decide (hi<=es.length∧(hi+xs.length)*(by_+1)<=140737488355328)&&xs.all (fun e=>e.cells.length==k+1)) (.d (.lst (es.take hi++xs)),[(id0,.dead)])
             else M.fail
           |_=>M.fail
         | .dfull es=>M.jb (decide ((es.length+xs.length)*(by_+1)<=140737488355328)&&(xs.all (fun e=>e.cells.length==k+1)&&es.all (fun e=>e.cells.length==k+1))) (.d (.lst (es++xs)),[])
         |_=>M.fail)
      else M.fail
    |_,_,_=>M.fail
end Go.Dw
