
import Derived.Test.YtfmoipelhfkdkaaGreatDoorDwCore
set_option linter.unusedVariables false
set_option linter.unusedSimpArgs false

namespace Go.Dw
structure St where
 rX:Nat->Option RV
 boxes:sj
def St.put(s:St)(dst:Option Nat)(v:RV):St:=
 match dst with
 |some d=>{ s with rX:=fun t=>if t=d then some v else s.rX t }
 |none=>s
def St.ups(s:St):Ups->St
 | []=>s
 |(id,b)::r=>St.ups { s with boxes:=fun i=>if i=id then some b else s.boxes i } r
def St.opd(s:St):Operand->Option RV
 | .tmp t=>s.rX t
 | .const v=>some (sn v)
 | .func f=>some (.d (.raw (.func (.func f) #[] #[])))
 | .global _=>none
abbrev rO:=FuncId->List RV->List Box->Option (RV×List Box)
def ids1:RV->List Nat
 | .ref id _| .ptr id _| .elt id _ _ _| .view id _ _ _| .fview id _ _=>[id]
 |_=>[]
def Ay:RV->List Nat
 | .agg cs| .tup cs| .clo _ cs=>cs.flatMap ids1
 | .ifc _ c=>ids1 c
 | .plit cs=>cs.flatMap ids1
 | .pcp c=>ids1 c
 |v=>ids1 v
def idsB:Box->List Nat
 | .var cs=>cs.flatMap Ay
 | .nest _ _ _ _ (some (_,rv))=>Ay rv
 | .hole _ _ _ _ _ rv=>Ay rv
 |_=>[]
structure Ren where
 pos:Nat->Option Nat
 ver:Nat->Nat->Option Nat
def wa(ρ:Ren):RV->RV
 | .ref id ver=>(match ρ.pos id,ρ.ver id ver with|some k,some v=>.ref k v|_,_=>.junk)
 | .view id ver lo hi=>(match ρ.pos id,ρ.ver id ver with|some k,some v=>.view k v lo hi|_,_=>.junk)
 | .elt id ver i o=>(match ρ.pos id,ρ.ver id ver with|some k,some v=>.elt k v i o|_,_=>.junk)
 | .ptr id off=>(match ρ.pos id with|some k=>.ptr k off|none=>.junk)
 | .agg _=>.junk
 | .tup _=>.junk
 | .clo _ _=>.junk
 | .ifc _ _=>.junk
 | .plit _=>.junk
 | .pcp _=>.junk
 | .fview id ver hi=>(match ρ.pos id,ρ.ver id ver with|some k,some v=>.fview k v hi|_,_=>.junk)
 |v=>v
def tD(ρ:Ren):RV->RV
 | .agg cs=>.agg (cs.map (wa ρ))
 | .tup cs=>.tup (cs.map (wa ρ))
 | .clo f cs=>.clo f (cs.map (wa ρ))
 | .ifc t c=>.ifc t (wa ρ c)
 | .plit cs=>.plit (cs.map (wa ρ))
 | .pcp c=>.pcp (wa ρ c)
 |v=>wa ρ v
def uB(ρ:Ren)(f:Nat->Nat):Box->Box
 | .arr ver e es=>.arr (f ver) e es
 | .var cs=>.var (cs.map (tD ρ))
 | .dead=>.dead
 | .map g j es=>.map g j es
 | .nest ver e e2 ess h=>.nest (f ver) e e2 ess (match h with|some (i,rv)=>some (i,tD ρ rv)|none=>none)
 | .hole ver e es i o rv=>.hole (f ver) e es i o (tD ρ rv)
def tf(b:sj)(f:Nat->Nat->Nat)(id ver:Nat):Option Nat:=
 match b id with
 |some (.arr cur _ _)=>if ver=cur then some (f id cur)else none
 |some (.nest cur _ _ _ _)=>if ver=cur then some (f id cur)else none
 |some (.hole cur _ _ _ _ _)=>if ver=cur then some (f id cur)else none
 |_=>none
def idxOf(l:List Nat)(id:Nat):Option Nat:=
 match l with
 | []=>none
 |a::r=>if id=a then some 0 else(idxOf r id).map (· +1)
def uJ:Nat->List Nat->List Nat->M (List Nat)
 |0,_,_=>M.fail
 |_+1,done,[]=>M.pure done
 |n+1,done,i::todo=>if done.contains i then uJ n done todo else M.bind (M.get i) fun b=>uJ n (done++[i]) (todo++idsB b)
def wY:List Nat->M (List Box)
 | []=>M.pure []
 |i::r=>M.bind (M.get i) fun b=>M.bind (wY r) fun l=>M.pure (b::l)
def tX:List Nat->M Unit
 | []=>M.pure ()
 |i::r=>M.bind (M.si i) fun _=>tX r
def look{α:Type}:List α->Nat->Option α
 | [],_=>none
 |a::_,0=>some a
 |_::r,n+1=>look r n
def argD(f:Bool)(v:RV):M (RV×Ups):=
 match v with
 | .ptr _ _| .elt _ _ _ _| .clo _ _| .ifc _ _=>M.pure (v,[])
 | .ref _ _| .view _ _ _ _=>if f then M.pure (v,[])else M.bind (uL v) fun(p,u)=>M.pure (.d p,u)
 | .rm=>if f then M.pure (v,[])else M.bind (uL v) fun(p,u)=>M.rG v.sized (.d p,u)
 | .agg _=>if f then M.pure (v,[])else M.bind (uL v) fun(p,u)=>M.rG v.sized (.d p,u)
 |v=>M.bind (uL v) fun(p,u)=>M.rG v.sized (.d p,u)
def wi(by_:Nat->Bool):Nat->List RV->M (List RV×Ups)
 |_,[]=>M.pure ([],[])
 |i,v::r=>M.bind (argD (by_ i) v) fun(x,u)=>M.bind (wi by_ (i+1) r) fun(l,us)=>M.pure (x::l,u++us)
def nodup:List Nat->Bool
 | []=>true
 |a::r=> !r.contains a&&nodup r
def Ak(a b:List Nat):Bool:=a.all fun x=> !b.contains x
def verB:Box->Nat
 | .arr v _ _=>v
 | .nest v _ _ _ _=>v
 | .hole v _ _ _ _ _=>v
 |_=>0
def yJ(b:sj):Ups->sj
 | []=>b
 |(id,x)::r=>yJ (fun i=>if i=id then some x else b i) r
structure Hf where
 lit:Nat->Bool
 by_:FuncId->Nat->Bool
def offOf(f:List Box)(k:Nat):Nat:=match look f k with|some b=>verB b|none=>0
def tT(base n:Nat):List Nat:=(List.range n).map (base+ ·)
def uZ(ids:List Nat)(f:List Box):Ren:=⟨idxOf ids,tf (fun i=>(idxOf ids i).bind (look f)) fun _ _=>0⟩
def xw(all:List Nat)(g f:List Box):Ren:=⟨look all,tf (look f) fun k cur=>offOf g k+cur⟩
def xu(all:List Nat)(g f:List Box):Ups:=all.zip (f.zipIdx.map fun x=>uB (xw all g f) (fun cur=>offOf g x.2+cur) x.1)
def flatP:PD->Bool
 | .bool _| .int _ _| .str _=>true
 |_=>false
def zy:RV->Bool
 | .d (.agg cs)=>cs.all flatP
 | .d p=>flatP p
 | .err _=>true
 |_=>false
def flatV:RV->Bool
 | .tup cs=>cs.all zy
 |v=>zy v
def Ae(g:Ups)(ids:List Nat)(f:List Box)(r:RV)(u:Ups):Ups:=if ids.isEmpty&&(f.isEmpty&&flatV r)then []else g++u
def uc(by_:FuncId->Nat->Bool)(call:rO)(f:FuncId)(base:Nat)(args:List RV):M (RV×Ups):=
 M.bind (wi (by_ f) 0 args) fun(as,k)=>
 M.bind (uJ 64 [] (as.flatMap Ay)) fun ids=>
 M.bind (wY ids) fun j=>
 match call f (as.map (tD (uZ ids j))) (j.map (uB (uZ ids j) fun _=>0))with
 |some (r,g)=>
  if ids.length<=g.length∧nodup ids=true∧Ak ids (k.map (·.1))=true then
   M.bind (tX (tT base (g.length-ids.length))) fun _=>
   M.pure (tD (xw (ids++tT base (g.length-ids.length)) j g) r,Ae k ids g r (xu (ids++tT base (g.length-ids.length)) j g))
  else M.fail
 |none=>M.fail
def tK(s:St):List Operand->Option (List RV)
 | []=>some []
 |x::r=>match s.opd x,tK s r with
  |some v,some l=>some (v::l)
  |_,_=>none
def tB(s:St):List (Nat×Operand)->Option (List (Nat×RV))
 | []=>some []
 |(i,x)::r=>match s.opd x,tB s r with
  |some v,some l=>some ((i,v)::l)
  |_,_=>none
def rV(s:St):Option Operand->Option (Option RV)
 |none=>some none
 |some x=>match s.opd x with|some v=>some (some v)|none=>none
def notD:RV->Option (PD×Bool)
 | .d (.bool b)=>some (.bool !b,true)
 |_=>none
def negD:RV->Option (PD×Bool)
 | .d (.int k n)=>some (.int k (k.wrap (0-n)),true)
 |_=>none
def convD(P:Program)(src dst:TypeId)(x:RV):Option (PD×Bool):=
 match P.underlying src,P.underlying dst,x with
 |some (.int _),some (.int k),.d (.int _ n)=>some (.int k (k.wrap n),true)
 |some .string,some .string,.d (.str s)=>some (.str s,true)
 |_,_,_=>none
def u8s:List PD->Option (List Int)
 | []=>some []
 | .int .u8 n::r=>(match u8s r with|some l=>some (n::l)|none=>none)
 |_=>none
def strU(l:List Int):List UInt8:=l.map fun n=>UInt8.ofNat n.toNat
theorem u8s_map(l:List Int):u8s (l.map (.int .u8))=some l:=by
 induction l with
 |nil=>rfl
 |cons n l f=>simp only [List.map_cons,u8s,f]
theorem AQ:∀{es:List PD}{ns:List Int},u8s es=some ns->es=ns.map (.int .u8)
 | [],ns,h=>by cases h;rfl
 |p::r,ns,h=>by
  cases p<;>first|(cases h;done)|skip
  rename_i k n
  cases k<;>first|(cases h;done)|skip
  simp only [u8s]at h
  rcases f:u8s r with _|l
  ·rw [f]at h;cases h
  ·rw [f]at h
   cases h
   rw [AQ f]
   rfl
def wX(P:Program)(id:Nat)(src dst:TypeId)(x:RV):M (RV×Ups):=
 match P.underlying src,P.underlying dst,x with
 |some .string,some (.slice e),.d (.str s)=>
  (match P.underlying e with
   |some (.int .u8)=>M.bind (M.si id) fun _=>M.rG (decide (szT P e=some 1∧s.length<=140737488355328)) (.ref id 0,[(id,.arr 0 e (s.map fun b=>.int .u8 b.toNat))])
   |_=>M.fail)
 |some (.slice e),some .string,.ref i ver=>
  (match P.underlying e with
   |some (.int .u8)=>M.bind (M.get i) fun
    | .arr f _ es=>if ver=f then(match u8s es with|some ns=>sQ (.d (.str (strU ns)))|none=>M.fail)else M.fail
    |_=>M.fail
   |_=>M.fail)
 |some (.slice e),some .string,.d (.lst es)=>
  (match P.underlying e with
   |some (.int .u8)=>(match u8s es with|some ns=>sQ (.d (.str (strU ns)))|none=>M.fail)
   |_=>M.fail)
 |_,_,_=>wZ (convD P src dst x)
def ifcD(P:Program)(t:TypeId)(x:RV):M (RV×Ups):=
 match P.underlying t,x with
 |some (.interface _),_=>M.fail
 |some _,.d p=>sQ (.ifc t (.d p))
 |some _,.ptr id off=>sQ (.ifc t (.ptr id off))
 |_,_=>M.fail
def wz(P:Program)(x:RV)(asserted:TypeId)(ok:Bool):M (RV×Ups):=
 match P.underlying asserted,x with
 |some (.interface _),_=>M.fail
 |some _,.ifc t c=>if t=asserted then sQ (if ok then .tup [c,.d (.bool true)]else c)else M.fail
 |_,_=>M.fail
def AE(P:Program)(t:TypeId)(name:String):Option (FuncId×Option TypeId):=
 match P.info? t with
 |some i=>
  (match i.methods.find? (·.name == name), P.underlying t with
   |some m,some u=>
    (match m.path.toList, m.func, u with
    | [],some (f,true),.pointer _=>some (f,none)
    | [],some (f,false),.pointer e=>some (f,some e)
    |_,_,_=>none)
   |_,_=>none)
 |none=>none
def wK(P:Program)(mt:Hf)(call:rO)(base:Nat)(x:RV)(name:String)(as:List RV):M (RV×Ups):=
 match x with
 | .ifc t c=>
  (match AE P t name with
   |some (f,none)=>uc mt.by_ call f base (c::as)
   |some (f,some e)=>M.bind (uw P e c) fun(v,_)=>uc mt.by_ call f base (v::as)
   |none=>M.fail)
 |_=>M.fail
def rN(P:Program)(mt:Hf)(call:rO)(s:St)(o:Oper):M (RV×Ups):=
 match o.op with
 | .move x| .assign x=>(match s.opd x with|some v=>sQ v|none=>M.fail)
 | .pick c a b=>
  (match s.opd c with
   |some (.d (.bool t))=>(match(if t then s.opd a else s.opd b)with|some v=>sQ v|none=>M.fail)
   |_=>M.fail)
 | .alloc t=>xU P (o.dst.getD 0*16) t
 | .box _ x=>(match s.opd x with|some v=>boxD (o.dst.getD 0*16) v|none=>M.fail)
 | .build t parts=>(match tB s parts.toList with|some l=>xc P t l|none=>M.fail)
 | .buildSlice t len parts=>(match tB s parts.toList with|some l=>tR P (mt.lit (o.dst.getD 0)) (o.dst.getD 0*16) t len l|none=>M.fail)
 | .load t a=>(match s.opd a with|some v=>uw P t v|none=>M.fail)
 | .store t a x=>(match s.opd a,s.opd x with|some v,some u=>vL P t v u|_,_=>M.fail)
 | .nilCheck x=>(match s.opd x with|some v=>xR 0 v|none=>M.fail)
 | .binOp op t x y _=>(match s.opd x,s.opd y with|some a,some b=>wZ (Aa P op t x y a b)|_,_=>M.fail)
 | .unOp .not _ x=>(match s.opd x with|some a=>wZ (notD a)|none=>M.fail)
 | .unOp .neg _ x=>(match s.opd x with|some a=>wZ (negD a)|none=>M.fail)
 | .convert src dst x=>(match s.opd x with|some a=>wX P (o.dst.getD 0*16) src dst a|none=>M.fail)
 | .makeSlice t l c=>(match s.opd l,s.opd c with|some a,some b=>tH P (o.dst.getD 0*16) t a b|_,_=>M.fail)
 | .makeMap t r=>(match rV s r with|some none=>vJ P (o.dst.getD 0*16) t|_=>M.fail)
 | .lookup t x k ok=>(match s.opd x,s.opd k with|some v,some n=>vr P t v n ok|_,_=>M.fail)
 | .mapUpdate t x k y=>(match s.opd x,s.opd k,s.opd y with|some v,some n,some u=>vu P t v n u|_,_,_=>M.fail)
 | .slice t x lo hi j=>
  (match s.opd x, rV s lo, rV s hi, rV s j with
   |some v,some l,some h,some m=>if mt.lit (o.dst.getD 0)then zF P t v l h m else tC P (o.dst.getD 0*16) t v l h m
   |_,_,_,_=>M.fail)
 | .fieldAddr t x f=>(match s.opd x with|some v=>uu P t v f|none=>M.fail)
 | .field t x f=>(match s.opd x with|some v=>xX P t v f|none=>M.fail)
 | .indexAddr t x i=>(match s.opd x,s.opd i with|some v,some n=>tc P t v n|_,_=>M.fail)
 | .index t x i=>(match s.opd x,s.opd i with|some v,some n=>xi P t v n|_,_=>M.fail)
 | .makeFunc fn first cs=>(match tK s cs.toList with|some l=>(match fn,first.toList with| .func g,[]=>sQ (.clo g l)| .func g,[x]=>(match s.opd x,l with|some (.d (.agg [])),[]=>sQ (.d (.raw (.func (.func g) #[.agg #[]] #[])))|_,_=>M.fail)|_,_=>M.fail)|none=>M.fail)
 | .makeInterface t x=>(match s.opd x with|some v=>ifcD P t v|none=>M.fail)
 | .typeAssert x _ t ok=>(match s.opd x with|some v=>wz P v t ok|none=>M.fail)
 | .extract x i=>
  (match s.opd x with
   |some (.tup vs)=>(match vs[i]? with|some v=>sQ v|none=>M.fail)
   |_=>M.fail)
 | .call c=>
  (match c.callee, tK s c.args.toList with
   | .builtin .len,some [x]=>(if c.argTypes.size=1 then yW P (c.argTypes.getD 0 0) x else M.fail)
   | .builtin .cap,some [x]=>(if c.argTypes.size=1 then capD P (c.argTypes.getD 0 0) x else M.fail)
   | .builtin .append,some [a,x]=>(if c.argTypes.size=2 then(if c.argTypes.getD 0 0=c.argTypes.getD 1 0 then te P (o.dst.getD 0*16) (c.argTypes.getD 0 0) (c.argTypes.getD 1 0) a x else zp P (o.dst.getD 0*16) (c.argTypes.getD 0 0) (c.argTypes.getD 1 0) a x)else M.fail)
   | .builtin .copy,some [a,x]=>(if c.argTypes.size=2 then xO P (c.argTypes.getD 0 0) a x else M.fail)
   | .builtin .clear,some [a]=>(if c.argTypes.size=1 then vY P (c.argTypes.getD 0 0) a else M.fail)
   | .builtin .min,some l=>minD l
   | .builtin .max,some l=>maxD l
   | .invoke rc name,some as=>(match s.opd rc with|some v=>wK P mt call (o.dst.getD 0*16) v name as|none=>M.fail)
   | .value f,some as=>
    (match s.opd f with
    |some (.d (.raw (.func (.func g) ⟨[]⟩ ⟨[]⟩)))=>uc mt.by_ call g (o.dst.getD 0*16) as
    |some (.d (.raw (.func (.func g) ⟨[.agg ⟨[]⟩]⟩ ⟨[]⟩)))=>uc mt.by_ call g (o.dst.getD 0*16) (.d (.agg [])::as)
    |some (.clo g cs)=>uc mt.by_ call g (o.dst.getD 0*16) (as++cs)
    |_=>M.fail)
   |_,_=>M.fail)
 |_=>M.fail
def og(ops:Array Oper)(s:St)(o:Oper):Option Bool:=
 match o.guard with
 |none=>some true
 |some (j,want)=>
  match(ops[j]?).bind (·.dst)with
  |none=>none
  |some t=>
   match s.rX t with
   |some (.d (.bool b))=>some (b==want)
   |some .undef=>some false
   |_=>none
structure Tr where
 rd:List Nat
 wr:List Nat
def step1(P:Program)(mt:Hf)(call:rO)(ops:Array Oper)(o:Oper)(s:St):Option (St×Tr):=
 match og ops s o with
 |some w=>
  if w then
   match rN P mt call s o s.boxes with
   |some ((v,u),rd,c)=>if c then some ((s.ups u).put o.dst v,⟨rd,u.map (·.1)⟩)else none
   |none=>none
  else some (s.put o.dst .undef,⟨[],[]⟩)
 |none=>none
def tQ(P:Program)(mt:Hf)(call:rO)(ops:Array Oper):List Oper->St->Option (St×List Tr)
 | [],s=>some (s,[])
 |o::r,s=>
  match step1 P mt call ops o s with
  |some (s',t)=>(match tQ P mt call ops r s' with|some (f,ts)=>some (f,t::ts)|none=>none)
  |none=>none
def zT:List Oper->List Nat->List Nat
 | [],acc=>acc
 |o::r,acc=>zT r (acc++[o.after.toList.foldl (fun b e=>if Region.binds .any e then b ||| (2 ^ e.on ||| acc.getD e.on 0)else b) 0])
def zg(ops:Array Oper)(x:Oper×Tr)(y:Oper×Tr):Bool:=
 x.1.apart ops y.1&&Ak x.2.wr y.2.rd&&Ak y.2.wr x.2.rd&&Ak x.2.wr y.2.wr
def u9(ops:Array Oper)(ts:List Tr):Bool:=
 let l:=ops.toList
 let f:=zT l []
 let xs:=l.zip ts
 Region.noSelect ops&&
 (l.zipIdx.all fun(o,i)=>o.after.toList.all fun e=> !Region.binds .any e||decide (e.on<i))&&
 (xs.zipIdx.all fun(y,i)=>xs.zipIdx.all fun(x,j)=> !decide (j<i)||(f.getD i 0).testBit j||zg ops x y)
inductive Ex where
 |normal
 |exit (id:Nat)
 |ret
def wD(body:St->Option (Ex×St)):Nat->St->Option (Ex×St)
 |0,_=>none
 |n+1,s=>
  match body s with
  |some (.normal,s')=>wD body n s'
  |r=>r
inductive Pl where
 |reg (t:Nat)
 |cell (id off:Nat)
 deriving Inhabited
def uI(s:St):Pl->Option RV
 | .reg t=>s.rX t
 | .cell id off=>(match s.boxes id with|some (.var cs)=>cs[off]? |_=>none)
def uO(s:St)(v:RV):Pl->St
 | .reg t=>{ s with rX:=fun x=>if x=t then some v else s.rX x }
 | .cell id off=>(match s.boxes id with|some (.var cs)=>{ s with boxes:=fun i=>if i=id then some (.var (cs.set off v))else s.boxes i }|_=>s)
def fixRV(id:Nat)(ps:List PD):RV->RV
 | .ptr i off=>if i=id then .cptr (ps.drop off)else .ptr i off
 |v=>v
inductive w6 where
 |dE (rX boxes:List Nat)
 |own (reg id:Nat) (e:TypeId)
 |freeze (reg:Nat)
 |frz (p:Pl)
 |ownp (p:Pl) (id:Nat) (e:TypeId)
 |mv (p:Pl) (new:Nat)
 |fixv (id:Nat)
 |bump (reg:Nat)
 |bumpp (p:Pl)
 |ownn (p:Pl) (id:Nat) (e e2:TypeId)
 |lend (id:Nat) (i:Option Nat) (new:Nat)
 |give (id:Nat)
 |frzn (p:Pl)
 |opn (id r o:Nat)
 |cls (id:Nat)
 deriving Inhabited
def assoc{α:Type}:List (Nat×α)->Nat->Option α
 | [],_=>none
 |(k,a)::r,t=>if t=k then some a else assoc r t
def gets{α:Type}(f:Nat->Option α):List Nat->Option (List (Nat×α))
 | []=>some []
 |t::r=>match f t,gets f r with
  |some v,some l=>some ((t,v)::l)
  |_,_=>none
def su(f:Nat)(id cur:Nat):Nat:=if id<f then min cur 1 else 0
def xj(s:St)(ess:List (List PD)):Option Nat->Option (Nat×List PD)
 |none=>(match ess[ess.length-1]? with|some es=>some (ess.length-1,es)|none=>none)
 | some t => (match s.rX t with
  |some (.d (.int _ n))=>if 0<=n then(match ess[n.toNat]? with|some es=>some (n.toNat,es)|none=>none)else none
  |_=>none)
def ta(P:Program)(q:Nat)(s:St):w6->Option St
 | .dE rs bs=>
  match gets s.rX rs,gets s.boxes bs with
  |some l,some m=>
   if(List.range q).all bs.contains then
    let ρ:Ren:=⟨fun id=>if bs.contains id then some id else none,tf s.boxes (su q)⟩
    some { rX:=assoc (l.map fun x=>(x.1,tD ρ x.2)),boxes:=assoc (m.map fun x=>(x.1,uB ρ (su q x.1) x.2)) }
   else none
  |_,_=>none
 | .own t id e=>
  match s.rX t,s.boxes id,szT P e with
  |some .rm,none,some (_+1)=>some { rX:=fun x=>if x=t then some (.ref id 0)else s.rX x,boxes:=fun i=>if i=id then some (.arr 0 e [])else s.boxes i }
  |some (.ref _ _),_,_=>some s
  |_,_,_=>none
 | .freeze t=>
  match s.rX t with
  |some (.ref id ver)=>
   (match s.boxes id with
    |some (.arr f _ es)=>if ver=f then some { rX:=fun x=>if x=t then some (.d (.lst es))else s.rX x,boxes:=fun i=>if i=id then some .dead else s.boxes i }else none
    |_=>none)
  |_=>none
 | .frz p=>
  match uI s p with
  |some .rm=>some (uO s (.d (.lst [])) p)
  |some (.d _)=>some s
  |some (.ref id ver)=>
   (match s.boxes id with
    |some (.arr f _ es)=>if ver=f then some (uO { s with boxes:=fun i=>if i=id then some .dead else s.boxes i } (.d (.lst es)) p)else none
    |_=>none)
  |_=>none
 | .ownp p id e=>
  match uI s p,s.boxes id,szT P e with
  |some .rm,none,some (_+1)=>some (uO { s with boxes:=fun i=>if i=id then some (.arr 0 e [])else s.boxes i } (.ref id 0) p)
  |some (.ref _ _),_,_=>some s
  |_,_,_=>none
 | .mv p new=>
  match uI s p with
  |some .rm=>some s
  |some (.ref id _)=>
   if id=new then some s else if q<=id∧q<=new then
    let ρ:Ren:=⟨fun i=>if i=id then some new else if i=new then none else some i,tf s.boxes fun _ c=>c⟩
    some { rX:=fun t=>(s.rX t).map (tD ρ),boxes:=fun i=>if i=new then(s.boxes id).map (uB ρ fun c=>c)else if i=id then none else(s.boxes i).map (uB ρ fun c=>c) }
   else none
  |_=>none
 | .fixv id=>
  match s.boxes id with
  |some (.var cs)=>
   (match w9 cs with
    |some ps=>if ps.all PD.one=true then some { rX:=fun t=>(s.rX t).map (fixRV id ps),boxes:=fun i=>if i=id then some .dead else s.boxes i }else none
    |none=>none)
  |_=>none
 | .bump t=>
  match s.rX t with
  |some (.ref id ver)=>
   (match s.boxes id with
    |some (.arr f e es)=>if ver=f then some { rX:=fun x=>if x=t then some (.ref id (ver+1))else s.rX x,boxes:=fun i=>if i=id then some (.arr (ver+1) e es)else s.boxes i }else none
    |_=>none)
  |_=>none
 | .bumpp p=>
  match uI s p with
  |some (.ref id ver)=>
   (match s.boxes id with
    |some (.arr f e es)=>if ver=f then some (uO { s with boxes:=fun i=>if i=id then some (.arr (ver+1) e es)else s.boxes i } (.ref id (ver+1)) p)else none
    |_=>none)
  |_=>none
 | .ownn p id e e2=>
  match uI s p,s.boxes id,szT P e,szT P e2 with
  |some .rm,none,some 1,some (_+1)=>some (uO { s with boxes:=fun i=>if i=id then some (.nest 0 e e2 [] none)else s.boxes i } (.ref id 0) p)
  |some (.ref _ _),_,_,_=>some s
  |_,_,_,_=>none
 | .lend id i new=>
  match s.boxes id,s.boxes new with
  |some (.nest ver e e2 ess none),none=>
   (match xj s ess i with
    |some (j,es)=>some { s with boxes:=fun k=>if k=new then some (.arr 0 e2 es)else if k=id then some (.nest ver e e2 ess (some (j,.ref new 0)))else s.boxes k }
    |none=>none)
  |_,_=>none
 | .give id=>
  match s.boxes id with
  |some (.nest ver e e2 ess (some (i,.ref k C)))=>
   (match s.boxes k with
    |some (.arr g D es)=>if C=g∧D=e2∧k≠id then some { s with boxes:=fun j=>if j=k then some .dead else if j=id then some (.nest ver e e2 (ess.set i es) none)else s.boxes j }else none
    |_=>none)
  |some (.nest _ _ _ _ (some _))=>none
  |_=>some s
 | .frzn p=>
  match uI s p with
  |some (.ref id ver)=>
   (match s.boxes id with
    |some (.nest f _ _ ess none)=>if ver=f then some (uO { s with boxes:=fun i=>if i=id then some .dead else s.boxes i } (.d (.lst (ess.map .lst))) p)else none
    |_=>none)
  |some .rm=>some (uO s (.d (.lst [])) p)
  |some (.d _)=>some s
  |_=>none
 | .opn id r o=>
  match s.boxes id,s.rX r with
  |some (.arr ver e es),some (.d (.int _ n))=>
   (match es[n.toNat]? with
    | some x => (match x.cells[o]? with
     |some c=>some { s with boxes:=fun i=>if i=id then some (.hole ver e es n.toNat o (.d c))else s.boxes i }
     |none=>none)
    |none=>none)
  |_,_=>none
 | .cls id=>
  match s.boxes id with
  |some (.hole ver e es i o (.d c))=>if c.one=true then some { s with boxes:=fun k=>if k=id then some (.arr ver e (es.set i ((es.getD i default).put o [c])))else s.boxes k }else none
  |some (.hole ver e es i o (.ref k C))=>
   (match s.boxes k with
    |some (.arr g _ u)=>if C=g∧k≠id then some { s with boxes:=fun j=>if j=k then some .dead else if j=id then some (.arr ver e (es.set i ((es.getD i default).put o [.lst u])))else s.boxes j }else none
    |_=>none)
  |some (.hole _ _ _ _ _ _)=>none
  |_=>some s
def rJ(P:Program)(f:Nat)(s:St):List w6->Option St
 | []=>some s
 |g::r=>match ta P f s g with|some s'=>rJ P f s' r|none=>none
structure Hints where
 at_:FuncId->Nat->Nat->List w6
 mt:FuncId->Nat->Bool
 by_:FuncId->Nat->Bool
 own:FuncId->Nat->Bool
def Hints.hf(H:Hints)(f:FuncId):Hf:=⟨H.mt f,H.by_⟩
def yz(P:Program)(H:Hints)(f:FuncId)(g:Nat)(call:rO)(id:Nat)(ops:Array Oper)(j:Bool)(s:St):Option St:=
 match rJ P g s (H.at_ f g id)with
 |none=>none
 |some s0=>
  match tQ P (H.hf f) call ops ops.toList s0 with
  |some (s',ts)=>if j then(if u9 ops ts then some s' else none)else some s'
  |none=>none
def sa(P:Program)(H:Hints)(f:FuncId)(g:Nat)(call:rO)(fuel:Nat):Code->St->Option (Ex×St)
 | .skip,s=>some (.normal,s)
 | .region id ops k,s=>(match yz P H f g call id ops k s with|some s'=>some (.normal,s')|none=>none)
 | .seq a b,s=>
  match sa P H f g call fuel a s with
  |some (.normal,s')=>sa P H f g call fuel b s'
  |r=>r
 | .cond c a b,s=>
  match s.opd c with
  |some (.d (.bool t))=>if t then sa P H f g call fuel a s else sa P H f g call fuel b s
  |_=>none
 | .block id b,s=>
  match sa P H f g call fuel b s with
  |some (.exit j,s')=>if j=id then some (.normal,s')else some (.exit j,s')
  |r=>r
 | .loop b,s=>wD (sa P H f g call fuel b) fuel s
 | .exit id,s=>some (.exit id,s)
 | .ret,s=>some (.ret,s)
 | .scope b,s=>sa P H f g call fuel b s
 | .label _,s=>some (.normal,s)
 |_,_=>none
def outV(own:Bool)(v:RV):M (RV×Ups):=
 match v with
 | .agg cs=>if own then M.pure (v,[])else M.bind (vU cs) fun(ps,u)=>M.pure (.d (.agg ps),u)
 | .rm=>M.pure (.d (.lst []),[])
 | .ref _ _| .view _ _ _ _=>if own then M.pure (v,[])else M.bind (uL v) fun(p,u)=>M.pure (.d p,u)
 | .tup _=>M.fail
 |v=>M.pure (v,[])
def resV(P:Program)(s:St):ResultVar->M RV
 | .tmp t=>(match s.rX t with|some v=>M.pure v|none=>M.fail)
 | .cell t ty=>M.bind (match s.rX t with|some a=>uw P ty a|none=>M.fail) fun(v,_)=>M.pure v
def resD(P:Program)(own:Nat->Bool)(s:St):Nat->List ResultVar->M (List RV×Ups)
 |_,[]=>M.pure ([],[])
 |i,x::r=>M.bind (resV P s x) fun v=>M.bind (outV (own i) v) fun(y,u)=>M.bind (resD P own s (i+1) r) fun(f,us)=>M.pure (y::f,u++us)
def one(l:List RV):RV:=match l with| [v]=>v|l=>.tup l
def yx(nt:Nat):Code->Bool
 | .region _ ops _=>ops.all fun o=>match o.dst with|some d=>decide (d<nt)|none=>true
 | .seq a b| .cond _ a b=>yx nt a&&yx nt b
 | .block _ b| .loop b| .scope b=>yx nt b
 |_=>true
def finish(P:Program)(own:Nat->Bool)(fn:Func)(g:Nat)(s:St):Option (RV×List Box):=
 match resD P own s 0 fn.results.toList s.boxes with
 |some ((rs,u),_,true)=>
  let j:=yJ s.boxes u
  match M.bind (uJ 64 [] (List.range g++rs.flatMap Ay)) (fun ids=>M.bind (wY ids) fun f=>M.pure (ids,f)) j with
  |some ((ids,f),_,true)=>
   if ids.take g=List.range g∧nodup ids=true then
    let ρ:Ren:=⟨idxOf ids,tf j (su g)⟩
    some (tD ρ (one rs),(ids.zip f).map fun x=>uB ρ (su g x.1) x.2)
   else none
  |_=>none
 |_=>none
def sI(P:Program)(H:Hints)(ext:FuncId->Option rO):Nat->rO
 |0,_,_,_=>none
 |n+1,f,args,bs=>
  match ext f with
  |some g=>g f args bs
  |none=>
   match P.funcs[f]? with
   |some fn=>
    match fn.body with
    |some c=>
     if yx fn.ntmps c && (fn.name != "runtime.NumGoroutine") && decide (args.length ≤ fn.ntmps) && bs.all (fun b => verB b == 0) then
      match sa P H f bs.length (sI P H ext n) n c { rX:=look args,boxes:=look bs }with
      |some (.normal,s)=>finish P (H.own f) fn bs.length s
      |some (.ret,s)=>finish P (H.own f) fn bs.length s
      |_=>none
     else none
    |none=>none
   |none=>none
end Go.Dw
