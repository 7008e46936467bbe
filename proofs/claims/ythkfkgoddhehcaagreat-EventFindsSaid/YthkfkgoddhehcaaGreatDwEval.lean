
import Derived.Test.YthkfkgoddhehcaaGreatDwCore

namespace Go.Dw
structure St where
 tT:Nat->Option RV
 boxes:tY
def St.put(s:St)(dst:Option Nat)(v:RV):St:=
 match dst with
 |some d=>{ s with tT:=λt=>if t=d then some v else s.tT t }
 |none=>s
def St.ups(s:St):Ups->St
 | []=>s
 |(id,b)::r=>St.ups { s with boxes:=λi=>if i=id then some b else s.boxes i } r
def St.opd(s:St):Operand->Option RV
 | .tmp t=>s.tT t
 | .const v=>some (uh v)
 | .func f=>some (.d (.raw (.func (.func f) #[] #[])))
 | .global _=>none
abbrev tI:=FuncId->List RV->List Box->Option (RV×List Box)
def ids1:RV->List Nat
 | .ref id _| .ptr id _| .elt id _ _ _| .view id _ _ _=>[id]
 |_=>[]
def Br:RV->List Nat
 | .agg cs| .tup cs| .clo _ cs=>cs.flatMap ids1
 | .ifc _ c=>ids1 c
 | .plit cs=>cs.flatMap ids1
 | .pcp c=>ids1 c
 |v=>ids1 v
def idsB:Box->List Nat
 | .var cs=>cs.flatMap Br
 | .nest _ _ _ _ (some (_,rv))=>Br rv
 |_=>[]
structure Ren where
 pos:Nat->Option Nat
 ver:Nat->Nat->Option Nat
def xF(ρ:Ren):RV->RV
 | .ref id ver=>(match ρ.pos id,ρ.ver id ver with|some k,some v=>.ref k v|_,_=>.junk)
 | .view id ver lo hi=>(match ρ.pos id,ρ.ver id ver with|some k,some v=>.view k v lo hi|_,_=>.junk)
 | .elt id ver i o=>(match ρ.pos id,ρ.ver id ver with|some k,some v=>.elt k v i o|_,_=>.junk)
 | .ptr id off=>(match ρ.pos id with|some k=>.ptr k off|none=>.junk)
 | .agg _=>.junk
 | .tup _=>.junk
 | .clo _ _=>.junk
 | .ifc _ _=>.junk
 | .plit _=>.junk
 | .pcp _=>.junk
 |v=>v
def uZ(ρ:Ren):RV->RV
 | .agg cs=>.agg (cs.map (xF ρ))
 | .tup cs=>.tup (cs.map (xF ρ))
 | .clo f cs=>.clo f (cs.map (xF ρ))
 | .ifc t c=>.ifc t (xF ρ c)
 | .plit cs=>.plit (cs.map (xF ρ))
 | .pcp c=>.pcp (xF ρ c)
 |v=>xF ρ v
def vU(ρ:Ren)(f:Nat->Nat):Box->Box
 | .arr ver e es=>.arr (f ver) e es
 | .var cs=>.var (cs.map (uZ ρ))
 | .dead=>.dead
 | .nest ver e e2 ess h=>.nest (f ver) e e2 ess (match h with|some (i,rv)=>some (i,uZ ρ rv)|none=>none)
def uz(b:tY)(f:Nat->Nat->Nat)(id ver:Nat):Option Nat:=
 match b id with
 |some (.arr cur _ _)=>if ver=cur then some (f id cur)else none
 |some (.nest cur _ _ _ _)=>if ver=cur then some (f id cur)else none
 |_=>none
def idxOf(l:List Nat)(id:Nat):Option Nat:=
 match l with
 | []=>none
 |a::r=>if id=a then some 0 else(idxOf r id).map (· +1)
def vT:Nat->List Nat->List Nat->M (List Nat)
 |0,_,_=>M.fail
 |_+1,done,[]=>M.pure done
 |n+1,done,i::todo=>if done.contains i then vT n done todo else M.bind (M.get i) λb=>vT n (done++[i]) (todo++idsB b)
def xB:List Nat->M (List Box)
 | []=>M.pure []
 |i::r=>M.bind (M.get i) λb=>M.bind (xB r) λl=>M.pure (b::l)
def vr:List Nat->M Unit
 | []=>M.pure ()
 |i::r=>M.bind (M.uj i) λ_=>vr r
def look{α:Type}:List α->Nat->Option α
 | [],_=>none
 |a::_,0=>some a
 |_::r,n+1=>look r n
def argD(a:Bool)(v:RV):M (RV×Ups):=
 match v with
 | .ptr _ _| .elt _ _ _ _| .clo _ _| .ifc _ _=>M.pure (v,[])
 | .ref _ _| .view _ _ _ _=>if a then M.pure (v,[])else M.bind (wv v) fun(p,u)=>M.pure (.d p,u)
 | .tC=>if a then M.pure (v,[])else M.bind (wv v) fun(p,u)=>M.tL v.sized (.d p,u)
 | .agg _=>if a then M.pure (v,[])else M.bind (wv v) fun(p,u)=>M.tL v.sized (.d p,u)
 |v=>M.bind (wv v) fun(p,u)=>M.tL v.sized (.d p,u)
def xx(by_:Nat->Bool):Nat->List RV->M (List RV×Ups)
 |_,[]=>M.pure ([],[])
 |i,v::r=>M.bind (argD (by_ i) v) fun(x,u)=>M.bind (xx by_ (i+1) r) fun(l,us)=>M.pure (x::l,u++us)
def nodup:List Nat->Bool
 | []=>true
 |a::r=> !r.contains a&&nodup r
def Bj(a b:List Nat):Bool:=a.all λx=> !b.contains x
def verB:Box->Nat
 | .arr v _ _=>v
 | .nest v _ _ _ _=>v
 |_=>0
def ya(b:tY):Ups->tY
 | []=>b
 |(id,x)::r=>ya (λi=>if i=id then some x else b i) r
structure Hf where
 lit:Nat->Bool
 by_:FuncId->Nat->Bool
def offOf(a:List Box)(k:Nat):Nat:=match look a k with|some b=>verB b|none=>0
def vn(base n:Nat):List Nat:=(List.range n).map (base+ ·)
def wL(ids:List Nat)(a:List Box):Ren:=⟨idxOf ids,uz (λi=>(idxOf ids i).bind (look a)) λ_ _=>0⟩
def yD(all:List Nat)(c a:List Box):Ren:=⟨look all,uz (look a) λk cur=>offOf c k+cur⟩
def yC(all:List Nat)(c a:List Box):Ups:=all.zip (a.zipIdx.map λx=>vU (yD all c a) (λcur=>offOf c x.2+cur) x.1)
def flatP:PD->Bool
 | .bool _| .int _ _| .str _=>true
 |_=>false
def AM:RV->Bool
 | .d (.agg cs)=>cs.all flatP
 | .d p=>flatP p
 | .err _=>true
 |_=>false
def flatV:RV->Bool
 | .tup cs=>cs.all AM
 |v=>AM v
def Bd(u0:Ups)(ids:List Nat)(a:List Box)(r:RV)(u:Ups):Ups:=if ids.isEmpty&&(a.isEmpty&&flatV r)then []else u0++u
def vA(by_:FuncId->Nat->Bool)(call:tI)(f:FuncId)(base:Nat)(args:List RV):M (RV×Ups):=
 M.bind (xx (by_ f) 0 args) fun(as,u0)=>
 M.bind (vT 64 [] (as.flatMap Br)) λids=>
 M.bind (xB ids) λc=>
 match call f (as.map (uZ (wL ids c))) (c.map (vU (wL ids c) λ_=>0))with
 |some (r,a)=>
  if ids.length<=a.length∧nodup ids=true∧Bj ids (u0.map (·.1))=true then
   M.bind (vr (vn base (a.length-ids.length))) λ_=>
   M.pure (uZ (yD (ids++vn base (a.length-ids.length)) c a) r,Bd u0 ids a r (yC (ids++vn base (a.length-ids.length)) c a))
  else M.fail
 |none=>M.fail
def vw(s:St):List Operand->Option (List RV)
 | []=>some []
 |x::r=>match s.opd x,vw s r with
  |some v,some l=>some (v::l)
  |_,_=>none
def uQ(s:St):List (Nat×Operand)->Option (List (Nat×RV))
 | []=>some []
 |(i,x)::r=>match s.opd x,uQ s r with
  |some v,some l=>some ((i,v)::l)
  |_,_=>none
def ur(s:St):Option Operand->Option (Option RV)
 |none=>some none
 |some x=>match s.opd x with|some v=>some (some v)|none=>none
def notD:RV->Option (PD×Bool)
 | .d (.bool b)=>some (.bool !b,true)
 |_=>none
def negD:RV->Option (PD×Bool)
 | .d (.int k n)=>some (.int k (k.wrap (0-n)),true)
 |_=>none
def convD(P:Program)(src dst:TypeId)(x:RV):Option (PD×Bool):=
 match P.underlying src,P.underlying dst,x with
 |some (.int _),some (.int k),.d (.int _ n)=>some (.int k (k.wrap n),true)
 |some .string,some .string,.d (.str s)=>some (.str s,true)
 |_,_,_=>none
def u8s:List PD->Option (List Int)
 | []=>some []
 | .int .u8 n::r=>(match u8s r with|some l=>some (n::l)|none=>none)
 |_=>none
def strU(l:List Int):List UInt8:=l.map λn=>UInt8.ofNat n.toNat
theorem u8s_map(l:List Int):u8s (l.map (.int .u8))=some l:=by
 induction l with
 |nil=>rfl
 |cons n l a=>simp only [List.map_cons,u8s,a]
theorem BF:∀{es:List PD}{a:List Int},u8s es=some a->es=a.map (.int .u8)
 | [],a,h=>by cases h;rfl
 |p::r,a,h=>by
  cases p<;>first|(cases h;done)|skip
  rename_i k n
  cases k<;>first|(cases h;done)|skip
  simp only [u8s]at h
  rcases c:u8s r with _|l
  ·rw [c]at h;cases h
  ·rw [c]at h
   cases h
   rw [BF c]
   rfl
def yd(P:Program)(id:Nat)(src dst:TypeId)(x:RV):M (RV×Ups):=
 match P.underlying src,P.underlying dst,x with
 |some .string,some (.slice e),.d (.str s)=>
  (match P.underlying e with
   |some (.int .u8)=>M.bind (M.uj id) λ_=>M.tL (decide (szT P e=some 1∧s.length<=140737488355328)) (.ref id 0,[(id,.arr 0 e (s.map λb=>.int .u8 b.toNat))])
   |_=>M.fail)
 |some (.slice e),some .string,.ref i ver=>
  (match P.underlying e with
   |some (.int .u8)=>M.bind (M.get i) fun
    | .arr a _ es=>if ver=a then(match u8s es with|some c=>uB (.d (.str (strU c)))|none=>M.fail)else M.fail
    |_=>M.fail
   |_=>M.fail)
 |some (.slice e),some .string,.d (.lst es)=>
  (match P.underlying e with
   |some (.int .u8)=>(match u8s es with|some c=>uB (.d (.str (strU c)))|none=>M.fail)
   |_=>M.fail)
 |_,_,_=>yg (convD P src dst x)
def ifcD(P:Program)(t:TypeId)(x:RV):M (RV×Ups):=
 match P.underlying t,x with
 |some (.interface _),_=>M.fail
 |some _,.d p=>uB (.ifc t (.d p))
 |some _,.ptr id off=>uB (.ifc t (.ptr id off))
 |_,_=>M.fail
def xL(P:Program)(x:RV)(asserted:TypeId)(ok:Bool):M (RV×Ups):=
 match P.underlying asserted,x with
 |some (.interface _),_=>M.fail
 |some _,.ifc t c=>if t=asserted then uB (if ok then .tup [c,.d (.bool true)]else c)else M.fail
 |_,_=>M.fail
def Bu(P:Program)(t:TypeId)(name:String):Option (FuncId×Option TypeId):=
 match P.info? t with
 |some i=>
  (match i.methods.find? (·.name == name), P.underlying t with
   |some m,some u=>
    (match m.path.toList, m.func, u with
    | [],some (f,true),.pointer _=>some (f,none)
    | [],some (f,false),.pointer e=>some (f,some e)
    |_,_,_=>none)
   |_,_=>none)
 |none=>none
def xR(P:Program)(mt:Hf)(call:tI)(base:Nat)(x:RV)(name:String)(as:List RV):M (RV×Ups):=
 match x with
 | .ifc t c=>
  (match Bu P t name with
   |some (f,none)=>vA mt.by_ call f base (c::as)
   |some (f,some e)=>M.bind (wg P e c) fun(v,_)=>vA mt.by_ call f base (v::as)
   |none=>M.fail)
 |_=>M.fail
def tP(P:Program)(mt:Hf)(call:tI)(s:St)(o:Oper):M (RV×Ups):=
 match o.op with
 | .move x| .assign x=>(match s.opd x with|some v=>uB v|none=>M.fail)
 | .pick c a b=>
  (match s.opd c with
   |some (.d (.bool t))=>(match(if t then s.opd a else s.opd b)with|some v=>uB v|none=>M.fail)
   |_=>M.fail)
 | .alloc t=>zh P (o.dst.getD 0*16) t
 | .box _ x=>(match s.opd x with|some v=>boxD (o.dst.getD 0*16) v|none=>M.fail)
 | .build t parts=>(match uQ s parts.toList with|some l=>yp P t l|none=>M.fail)
 | .buildSlice t len parts=>(match uQ s parts.toList with|some l=>vj P (mt.lit (o.dst.getD 0)) (o.dst.getD 0*16) t len l|none=>M.fail)
 | .load t a=>(match s.opd a with|some v=>wg P t v|none=>M.fail)
 | .store t a x=>(match s.opd a,s.opd x with|some v,some u=>xr P t v u|_,_=>M.fail)
 | .nilCheck x=>(match s.opd x with|some v=>yZ 0 v|none=>M.fail)
 | .binOp op t x y _=>(match s.opd x,s.opd y with|some a,some b=>yg (binX P op t x y a b)|_,_=>M.fail)
 | .unOp .not _ x=>(match s.opd x with|some a=>yg (notD a)|none=>M.fail)
 | .unOp .neg _ x=>(match s.opd x with|some a=>yg (negD a)|none=>M.fail)
 | .convert src dst x=>(match s.opd x with|some a=>yd P (o.dst.getD 0*16) src dst a|none=>M.fail)
 | .makeSlice t l c=>(match s.opd l,s.opd c with|some a,some b=>uX P (o.dst.getD 0*16) t a b|_,_=>M.fail)
 | .slice t x lo hi mx=>
  (match s.opd x, ur s lo, ur s hi, ur s mx with
   |some v,some l,some h,some m=>if mt.lit (o.dst.getD 0)then AS P t v l h m else u6 P (o.dst.getD 0*16) t v l h m
   |_,_,_,_=>M.fail)
 | .fieldAddr t x f=>(match s.opd x with|some v=>vQ P t v f|none=>M.fail)
 | .field t x f=>(match s.opd x with|some v=>zk P t v f|none=>M.fail)
 | .indexAddr t x i=>(match s.opd x,s.opd i with|some v,some n=>uG P t v n|_,_=>M.fail)
 | .index t x i=>(match s.opd x,s.opd i with|some v,some n=>yu P t v n|_,_=>M.fail)
 | .makeFunc fn first cs=>(match vw s cs.toList with|some l=>(match fn,first.toList with| .func g,[]=>uB (.clo g l)| .func g,[x]=>(match s.opd x,l with|some (.d (.agg [])),[]=>uB (.d (.raw (.func (.func g) #[.agg #[]] #[])))|_,_=>M.fail)|_,_=>M.fail)|none=>M.fail)
 | .makeInterface t x=>(match s.opd x with|some v=>ifcD P t v|none=>M.fail)
 | .typeAssert x _ t ok=>(match s.opd x with|some v=>xL P v t ok|none=>M.fail)
 | .extract x i=>
  (match s.opd x with
   |some (.tup vs)=>(match vs[i]? with|some v=>uB v|none=>M.fail)
   |_=>M.fail)
 | .call c=>
  (match c.callee, vw s c.args.toList with
   | .builtin .len,some [x]=>(if c.argTypes.size=1 then Ar P (c.argTypes.getD 0 0) x else M.fail)
   | .builtin .cap,some [x]=>(if c.argTypes.size=1 then capD P (c.argTypes.getD 0 0) x else M.fail)
   | .builtin .append,some [a,x]=>(if c.argTypes.size=2 then(if c.argTypes.getD 0 0=c.argTypes.getD 1 0 then uV P (o.dst.getD 0*16) (c.argTypes.getD 0 0) (c.argTypes.getD 1 0) a x else AE P (o.dst.getD 0*16) (c.argTypes.getD 0 0) (c.argTypes.getD 1 0) a x)else M.fail)
   | .builtin .copy,some [a,x]=>(if c.argTypes.size=2 then yW P (c.argTypes.getD 0 0) a x else M.fail)
   | .builtin .clear,some [a]=>(if c.argTypes.size=1 then xn P (c.argTypes.getD 0 0) a else M.fail)
   | .builtin .min,some l=>minD l
   | .builtin .max,some l=>maxD l
   | .invoke rc name,some as=>(match s.opd rc with|some v=>xR P mt call (o.dst.getD 0*16) v name as|none=>M.fail)
   | .value f,some as=>
    (match s.opd f with
    |some (.d (.raw (.func (.func g) ⟨[]⟩ ⟨[]⟩)))=>vA mt.by_ call g (o.dst.getD 0*16) as
    |some (.d (.raw (.func (.func g) ⟨[.agg ⟨[]⟩]⟩ ⟨[]⟩)))=>vA mt.by_ call g (o.dst.getD 0*16) (.d (.agg [])::as)
    |some (.clo g cs)=>vA mt.by_ call g (o.dst.getD 0*16) (as++cs)
    |_=>M.fail)
   |_,_=>M.fail)
 |_=>M.fail
def tz(ops:Array Oper)(s:St)(o:Oper):Option Bool:=
 match o.guard with
 |none=>some true
 |some (j,want)=>
  match(ops[j]?).bind (·.dst)with
  |none=>none
  |some t=>
   match s.tT t with
   |some (.d (.bool b))=>some (b==want)
   |some .undef=>some false
   |_=>none
structure Tr where
 rd:List Nat
 wr:List Nat
def vH(P:Program)(mt:Hf)(call:tI)(ops:Array Oper)(o:Oper)(s:St):Option (St×Tr):=
 match tz ops s o with
 |some w=>
  if w then
   match tP P mt call s o s.boxes with
   |some ((v,u),rd,c)=>if c then some ((s.ups u).put o.dst v,⟨rd,u.map (·.1)⟩)else none
   |none=>none
  else some (s.put o.dst .undef,⟨[],[]⟩)
 |none=>none
def ve(P:Program)(mt:Hf)(call:tI)(ops:Array Oper):List Oper->St->Option (St×List Tr)
 | [],s=>some (s,[])
 |o::r,s=>
  match vH P mt call ops o s with
  |some (s',t)=>(match ve P mt call ops r s' with|some (a,ts)=>some (a,t::ts)|none=>none)
  |none=>none
def A5:List Oper->List Nat->List Nat
 | [],acc=>acc
 |o::r,acc=>A5 r (acc++[o.after.toList.foldl (λb e=>if Region.binds .any e then b ||| (2 ^ e.on ||| acc.getD e.on 0)else b) 0])
def Ay(ops:Array Oper)(x:Oper×Tr)(y:Oper×Tr):Bool:=
 x.1.apart ops y.1&&Bj x.2.wr y.2.rd&&Bj y.2.wr x.2.rd&&Bj x.2.wr y.2.wr
def wM(ops:Array Oper)(ts:List Tr):Bool:=
 let l:=ops.toList
 let a:=A5 l []
 let xs:=l.zip ts
 Region.noSelect ops&&
 (l.zipIdx.all fun(o,i)=>o.after.toList.all λe=> !Region.binds .any e||decide (e.on<i))&&
 (xs.zipIdx.all fun(y,i)=>xs.zipIdx.all fun(x,j)=> !decide (j<i)||(a.getD i 0).testBit j||Ay ops x y)
inductive Ex where
 |normal
 |exit (id:Nat)
 |ret
def xN(body:St->Option (Ex×St)):Nat->St->Option (Ex×St)
 |0,_=>none
 |n+1,s=>
  match body s with
  |some (.normal,s')=>xN body n s'
  |r=>r
inductive Pl where
 |reg (t:Nat)
 |cell (id off:Nat)
 deriving Inhabited
def wm(s:St):Pl->Option RV
 | .reg t=>s.tT t
 | .cell id off=>(match s.boxes id with|some (.var cs)=>cs[off]? |_=>none)
def wz(s:St)(v:RV):Pl->St
 | .reg t=>{ s with tT:=λx=>if x=t then some v else s.tT x }
 | .cell id off=>(match s.boxes id with|some (.var cs)=>{ s with boxes:=λi=>if i=id then some (.var (cs.set off v))else s.boxes i }|_=>s)
def fixRV(id:Nat)(a:List PD):RV->RV
 | .ptr i off=>if i=id then .cptr (a.drop off)else .ptr i off
 |v=>v
inductive yk where
 |j0 (tT boxes:List Nat)
 |own (reg id:Nat) (e:TypeId)
 |freeze (reg:Nat)
 |frz (p:Pl)
 |ownp (p:Pl) (id:Nat) (e:TypeId)
 |mv (p:Pl) (new:Nat)
 |fixv (id:Nat)
 |bump (reg:Nat)
 |bumpp (p:Pl)
 |ownn (p:Pl) (id:Nat) (e e2:TypeId)
 |lend (id:Nat) (i:Option Nat) (new:Nat)
 |zm (id:Nat)
 |frzn (p:Pl)
 deriving Inhabited
def assoc{α:Type}:List (Nat×α)->Nat->Option α
 | [],_=>none
 |(k,a)::r,t=>if t=k then some a else assoc r t
def gets{α:Type}(f:Nat->Option α):List Nat->Option (List (Nat×α))
 | []=>some []
 |t::r=>match f t,gets f r with
  |some v,some l=>some ((t,v)::l)
  |_,_=>none
def ud(a:Nat)(id cur:Nat):Nat:=if id<a then min cur 1 else 0
def yx(s:St)(ess:List (List PD)):Option Nat->Option (Nat×List PD)
 |none=>(match ess[ess.length-1]? with|some es=>some (ess.length-1,es)|none=>none)
 | some t => (match s.tT t with
  |some (.d (.int _ n))=>if 0<=n then(match ess[n.toNat]? with|some es=>some (n.toNat,es)|none=>none)else none
  |_=>none)
def uN(P:Program)(f:Nat)(s:St):yk->Option St
 | .j0 rs bs=>
  match gets s.tT rs,gets s.boxes bs with
  |some l,some m=>
   if(List.range f).all bs.contains then
    let ρ:Ren:=⟨λid=>if bs.contains id then some id else none,uz s.boxes (ud f)⟩
    some { tT:=assoc (l.map λx=>(x.1,uZ ρ x.2)),boxes:=assoc (m.map λx=>(x.1,vU ρ (ud f x.1) x.2)) }
   else none
  |_,_=>none
 | .own t id e=>
  match s.tT t,s.boxes id,szT P e with
  |some .tC,none,some (_+1)=>some { tT:=λx=>if x=t then some (.ref id 0)else s.tT x,boxes:=λi=>if i=id then some (.arr 0 e [])else s.boxes i }
  |some (.ref _ _),_,_=>some s
  |_,_,_=>none
 | .freeze t=>
  match s.tT t with
  |some (.ref id ver)=>
   (match s.boxes id with
    |some (.arr a _ es)=>if ver=a then some { tT:=λx=>if x=t then some (.d (.lst es))else s.tT x,boxes:=λi=>if i=id then some .dead else s.boxes i }else none
    |_=>none)
  |_=>none
 | .frz p=>
  match wm s p with
  |some .tC=>some (wz s (.d (.lst [])) p)
  |some (.d _)=>some s
  |some (.ref id ver)=>
   (match s.boxes id with
    |some (.arr a _ es)=>if ver=a then some (wz { s with boxes:=λi=>if i=id then some .dead else s.boxes i } (.d (.lst es)) p)else none
    |_=>none)
  |_=>none
 | .ownp p id e=>
  match wm s p,s.boxes id,szT P e with
  |some .tC,none,some (_+1)=>some (wz { s with boxes:=λi=>if i=id then some (.arr 0 e [])else s.boxes i } (.ref id 0) p)
  |some (.ref _ _),_,_=>some s
  |_,_,_=>none
 | .mv p new=>
  match wm s p with
  |some .tC=>some s
  |some (.ref id _)=>
   if id=new then some s else if f<=id∧f<=new then
    let ρ:Ren:=⟨λi=>if i=id then some new else if i=new then none else some i,uz s.boxes λ_ c=>c⟩
    some { tT:=λt=>(s.tT t).map (uZ ρ),boxes:=λi=>if i=new then(s.boxes id).map (vU ρ λc=>c)else if i=id then none else(s.boxes i).map (vU ρ λc=>c) }
   else none
  |_=>none
 | .fixv id=>
  match s.boxes id with
  |some (.var cs)=>
   (match yn cs with
    |some q=>if q.all PD.one=true then some { tT:=λt=>(s.tT t).map (fixRV id q),boxes:=λi=>if i=id then some .dead else s.boxes i }else none
    |none=>none)
  |_=>none
 | .bump t=>
  match s.tT t with
  |some (.ref id ver)=>
   (match s.boxes id with
    |some (.arr a e es)=>if ver=a then some { tT:=λx=>if x=t then some (.ref id (ver+1))else s.tT x,boxes:=λi=>if i=id then some (.arr (ver+1) e es)else s.boxes i }else none
    |_=>none)
  |_=>none
 | .bumpp p=>
  match wm s p with
  |some (.ref id ver)=>
   (match s.boxes id with
    |some (.arr a e es)=>if ver=a then some (wz { s with boxes:=λi=>if i=id then some (.arr (ver+1) e es)else s.boxes i } (.ref id (ver+1)) p)else none
    |_=>none)
  |_=>none
 | .ownn p id e e2=>
  match wm s p,s.boxes id,szT P e,szT P e2 with
  |some .tC,none,some 1,some (_+1)=>some (wz { s with boxes:=λi=>if i=id then some (.nest 0 e e2 [] none)else s.boxes i } (.ref id 0) p)
  |some (.ref _ _),_,_,_=>some s
  |_,_,_,_=>none
 | .lend id i new=>
  match s.boxes id,s.boxes new with
  |some (.nest ver e e2 ess none),none=>
   (match yx s ess i with
    |some (j,es)=>some { s with boxes:=λk=>if k=new then some (.arr 0 e2 es)else if k=id then some (.nest ver e e2 ess (some (j,.ref new 0)))else s.boxes k }
    |none=>none)
  |_,_=>none
 | .zm id=>
  match s.boxes id with
  |some (.nest ver e e2 ess (some (i,.ref k u)))=>
   (match s.boxes k with
    |some (.arr g r es)=>if u=g∧r=e2∧k≠id then some { s with boxes:=λj=>if j=k then some .dead else if j=id then some (.nest ver e e2 (ess.set i es) none)else s.boxes j }else none
    |_=>none)
  |some (.nest _ _ _ _ (some _))=>none
  |_=>some s
 | .frzn p=>
  match wm s p with
  |some (.ref id ver)=>
   (match s.boxes id with
    |some (.nest a _ _ ess none)=>if ver=a then some (wz { s with boxes:=λi=>if i=id then some .dead else s.boxes i } (.d (.lst (ess.map .lst))) p)else none
    |_=>none)
  |some .tC=>some (wz s (.d (.lst [])) p)
  |some (.d _)=>some s
  |_=>none
def tH(P:Program)(a:Nat)(s:St):List yk->Option St
 | []=>some s
 |g::r=>match uN P a s g with|some s'=>tH P a s' r|none=>none
structure Hints where
 at_:FuncId->Nat->Nat->List yk
 mt:FuncId->Nat->Bool
 by_:FuncId->Nat->Bool
 own:FuncId->Nat->Bool
def Hints.hf(H:Hints)(f:FuncId):Hf:=⟨H.mt f,H.by_⟩
def zU(P:Program)(H:Hints)(f:FuncId)(a:Nat)(call:tI)(id:Nat)(ops:Array Oper)(c:Bool)(s:St):Option St:=
 match tH P a s (H.at_ f a id)with
 |none=>none
 |some s0=>
  match ve P (H.hf f) call ops ops.toList s0 with
  |some (s',ts)=>if c then(if wM ops ts then some s' else none)else some s'
  |none=>none
def tW(P:Program)(H:Hints)(f:FuncId)(g:Nat)(call:tI)(fuel:Nat):Code->St->Option (Ex×St)
 | .skip,s=>some (.normal,s)
 | .region id ops k,s=>(match zU P H f g call id ops k s with|some s'=>some (.normal,s')|none=>none)
 | .seq a b,s=>
  match tW P H f g call fuel a s with
  |some (.normal,s')=>tW P H f g call fuel b s'
  |r=>r
 | .cond c a b,s=>
  match s.opd c with
  |some (.d (.bool t))=>if t then tW P H f g call fuel a s else tW P H f g call fuel b s
  |_=>none
 | .block id b,s=>
  match tW P H f g call fuel b s with
  |some (.exit j,s')=>if j=id then some (.normal,s')else some (.exit j,s')
  |r=>r
 | .loop b,s=>xN (tW P H f g call fuel b) fuel s
 | .exit id,s=>some (.exit id,s)
 | .ret,s=>some (.ret,s)
 | .scope b,s=>tW P H f g call fuel b s
 | .label _,s=>some (.normal,s)
 |_,_=>none
def outV(own:Bool)(v:RV):M (RV×Ups):=
 match v with
 | .agg cs=>if own then M.pure (v,[])else M.bind (xj cs) fun(a,u)=>M.pure (.d (.agg a),u)
 | .tC=>M.pure (.d (.lst []),[])
 | .ref _ _| .view _ _ _ _=>if own then M.pure (v,[])else M.bind (wv v) fun(p,u)=>M.pure (.d p,u)
 | .tup _=>M.fail
 |v=>M.pure (v,[])
def resV(P:Program)(s:St):ResultVar->M RV
 | .tmp t=>(match s.tT t with|some v=>M.pure v|none=>M.fail)
 | .cell t ty=>M.bind (match s.tT t with|some a=>wg P ty a|none=>M.fail) fun(v,_)=>M.pure v
def resD(P:Program)(own:Nat->Bool)(s:St):Nat->List ResultVar->M (List RV×Ups)
 |_,[]=>M.pure ([],[])
 |i,x::r=>M.bind (resV P s x) λv=>M.bind (outV (own i) v) fun(y,u)=>M.bind (resD P own s (i+1) r) fun(ys,us)=>M.pure (y::ys,u++us)
def one(l:List RV):RV:=match l with| [v]=>v|l=>.tup l
def zS(nt:Nat):Code->Bool
 | .region _ ops _=>ops.all λo=>match o.dst with|some d=>decide (d<nt)|none=>true
 | .seq a b| .cond _ a b=>zS nt a&&zS nt b
 | .block _ b| .loop b| .scope b=>zS nt b
 |_=>true
def finish(P:Program)(own:Nat->Bool)(fn:Func)(c:Nat)(s:St):Option (RV×List Box):=
 match resD P own s 0 fn.results.toList s.boxes with
 |some ((rs,u),_,true)=>
  let b1:=ya s.boxes u
  match M.bind (vT 64 [] (List.range c++rs.flatMap Br)) (λids=>M.bind (xB ids) λa=>M.pure (ids,a)) b1 with
  |some ((ids,a),_,true)=>
   if ids.take c=List.range c∧nodup ids=true then
    let ρ:Ren:=⟨idxOf ids,uz b1 (ud c)⟩
    some (uZ ρ (one rs),(ids.zip a).map λx=>vU ρ (ud c x.1) x.2)
   else none
  |_=>none
 |_=>none
def ub(P:Program)(H:Hints)(ext:FuncId->Option tI):Nat->tI
 |0,_,_,_=>none
 |n+1,f,args,bs=>
  match ext f with
  |some g=>g f args bs
  |none=>
   match P.funcs[f]? with
   |some fn=>
    match fn.body with
    |some c=>
     if zS fn.ntmps c && (fn.name != "runtime.NumGoroutine") && decide (args.length ≤ fn.ntmps) && bs.all (λb => verB b == 0) then
      match tW P H f bs.length (ub P H ext n) n c { tT:=look args,boxes:=look bs }with
      |some (.normal,s)=>finish P (H.own f) fn bs.length s
      |some (.ret,s)=>finish P (H.own f) fn bs.length s
      |_=>none
     else none
    |none=>none
   |none=>none
end Go.Dw
