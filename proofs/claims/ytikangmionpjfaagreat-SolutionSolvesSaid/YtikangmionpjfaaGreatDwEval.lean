
import Derived.Test.YtikangmionpjfaaGreatDwCore
set_option linter.unusedVariables false
set_option linter.unusedSimpArgs false

namespace Go.Dw
structure St where
  pI:Nat->Option RV
  boxes:pP
def St.put(s:St)(dst:Option Nat)(v:RV):St:=
  match dst with
  |some d=>{ s with pI:=fun t=>if t=d then some v else s.pI t }
  |none=>s
def St.ups(s:St):Ups->St
  | []=>s
  |(id,b)::r=>St.ups { s with boxes:=fun i=>if i=id then some b else s.boxes i } r
def St.opd(s:St):Operand->Option RV
  | .tmp t=>s.pI t
  | .const v=>some (pX v)
  | .func f=>some (.d (.raw (.func (.func f) #[] #[])))
  | .global _=>none
abbrev pA:=FuncId->List RV->List Box->Option (RV×List Box)
def ids1:RV->List Nat
  | .ref id _| .ptr id _| .elt id _ _ _| .view id _ _ _| .fview id _ _=>[id]
  |_=>[]
def xG:RV->List Nat
  | .agg cs| .tup cs| .clo _ cs=>cs.flatMap ids1
  | .ifc _ c=>ids1 c
  | .plit cs=>cs.flatMap ids1
  | .pcp c=>ids1 c
  |v=>ids1 v
def idsB:Box->List Nat
  | .var cs=>cs.flatMap xG
  | .nest _ _ _ _ (some (_,rv))=>xG rv
  | .hole _ _ _ _ _ rv=>xG rv
  |_=>[]
structure Ren where
  pos:Nat->Option Nat
  ver:Nat->Nat->Option Nat
def tY(ρ:Ren):RV->RV
  | .ref id ver=>(match ρ.pos id,ρ.ver id ver with|some k,some v=>.ref k v|_,_=>.junk)
  | .view id ver lo hi=>(match ρ.pos id,ρ.ver id ver with|some k,some v=>.view k v lo hi|_,_=>.junk)
  | .elt id ver i o=>(match ρ.pos id,ρ.ver id ver with|some k,some v=>.elt k v i o|_,_=>.junk)
  | .ptr id off=>(match ρ.pos id with|some k=>.ptr k off|none=>.junk)
  | .agg _=>.junk
  | .tup _=>.junk
  | .clo _ _=>.junk
  | .ifc _ _=>.junk
  | .plit _=>.junk
  | .pcp _=>.junk
  | .fview id ver hi=>(match ρ.pos id,ρ.ver id ver with|some k,some v=>.fview k v hi|_,_=>.junk)
  |v=>v
def qC(ρ:Ren):RV->RV
  | .agg cs=>.agg (cs.map (tY ρ))
  | .tup cs=>.tup (cs.map (tY ρ))
  | .clo f cs=>.clo f (cs.map (tY ρ))
  | .ifc t c=>.ifc t (tY ρ c)
  | .plit cs=>.plit (cs.map (tY ρ))
  | .pcp c=>.pcp (tY ρ c)
  |v=>tY ρ v
def rJ(ρ:Ren)(f:Nat->Nat):Box->Box
  | .arr ver e es=>.arr (f ver) e es
  | .var cs=>.var (cs.map (qC ρ))
  | .dead=>.dead
  | .map a c es=>.map a c es
  | .nest ver e e2 ess h=>.nest (f ver) e e2 ess (match h with|some (i,rv)=>some (i,qC ρ rv)|none=>none)
  | .hole ver e es i o rv=>.hole (f ver) e es i o (qC ρ rv)
def qk(b:pP)(f:Nat->Nat->Nat)(id ver:Nat):Option Nat:=
  match b id with
  |some (.arr cur _ _)=>if ver=cur then some (f id cur)else none
  |some (.nest cur _ _ _ _)=>if ver=cur then some (f id cur)else none
  |some (.hole cur _ _ _ _ _)=>if ver=cur then some (f id cur)else none
  |_=>none
def idxOf(l:List Nat)(id:Nat):Option Nat:=
  match l with
  | []=>none
  |a::r=>if id=a then some 0 else(idxOf r id).map (· +1)
def rH:Nat->List Nat->List Nat->M (List Nat)
  |0,_,_=>M.fail
  |_+1,done,[]=>M.pure done
  |n+1,done,i::todo=>if done.contains i then rH n done todo else M.bind (M.get i) fun b=>rH n (done++[i]) (todo++idsB b)
def ui:List Nat->M (List Box)
  | []=>M.pure []
  |i::r=>M.bind (M.get i) fun b=>M.bind (ui r) fun l=>M.pure (b::l)
def rj:List Nat->M Unit
  | []=>M.pure ()
  |i::r=>M.bind (M.pS i) fun _=>rj r
def look{α:Type}:List α->Nat->Option α
  | [],_=>none
  |a::_,0=>some a
  |_::r,n+1=>look r n
def argD(a:Bool)(v:RV):M (RV×Ups):=
  match v with
  | .ptr _ _| .elt _ _ _ _| .clo _ _| .ifc _ _=>M.pure (v,[])
  | .ref _ _| .view _ _ _ _=>if a then M.pure (v,[])else M.bind (rQ v) fun(p,u)=>M.pure (.d p,u)
  | .px=>if a then M.pure (v,[])else M.bind (rQ v) fun(p,u)=>M.py v.sized (.d p,u)
  | .agg _=>if a then M.pure (v,[])else M.bind (rQ v) fun(p,u)=>M.py v.sized (.d p,u)
  |v=>M.bind (rQ v) fun(p,u)=>M.py v.sized (.d p,u)
def uc(by_:Nat->Bool):Nat->List RV->M (List RV×Ups)
  |_,[]=>M.pure ([],[])
  |i,v::r=>M.bind (argD (by_ i) v) fun(x,u)=>M.bind (uc by_ (i+1) r) fun(l,us)=>M.pure (x::l,u++us)
def nodup:List Nat->Bool
  | []=>true
  |a::r=> !r.contains a&&nodup r
def ye(a b:List Nat):Bool:=a.all fun x=> !b.contains x
def verB:Box->Nat
  | .arr v _ _=>v
  | .nest v _ _ _ _=>v
  | .hole v _ _ _ _ _=>v
  |_=>0
def uQ(b:pP):Ups->pP
  | []=>b
  |(id,x)::r=>uQ (fun i=>if i=id then some x else b i) r
structure Hf where
  lit:Nat->Bool
  by_:FuncId->Nat->Bool
def offOf(a:List Box)(k:Nat):Nat:=match look a k with|some b=>verB b|none=>0
def q9(base n:Nat):List Nat:=(List.range n).map (base+ ·)
def sD(ids:List Nat)(a:List Box):Ren:=⟨idxOf ids,qk (fun i=>(idxOf ids i).bind (look a)) fun _ _=>0⟩
def vz(all:List Nat)(c a:List Box):Ren:=⟨look all,qk (look a) fun k cur=>offOf c k+cur⟩
def vw(all:List Nat)(c a:List Box):Ups:=all.zip (a.zipIdx.map fun x=>rJ (vz all c a) (fun cur=>offOf c x.2+cur) x.1)
def flatP:PD->Bool
  | .bool _| .int _ _| .str _=>true
  |_=>false
def xx:RV->Bool
  | .d (.agg cs)=>cs.all flatP
  | .d p=>flatP p
  | .err _=>true
  |_=>false
def flatV:RV->Bool
  | .tup cs=>cs.all xx
  |v=>xx v
def xY(c:Ups)(ids:List Nat)(a:List Box)(r:RV)(u:Ups):Ups:=if ids.isEmpty&&(a.isEmpty&&flatV r)then []else c++u
def rn(by_:FuncId->Nat->Bool)(call:pA)(f:FuncId)(base:Nat)(args:List RV):M (RV×Ups):=
  M.bind (uc (by_ f) 0 args) fun(as,g)=>
  M.bind (rH 64 [] (as.flatMap xG)) fun ids=>
  M.bind (ui ids) fun c=>
  match call f (as.map (qC (sD ids c))) (c.map (rJ (sD ids c) fun _=>0))with
  |some (r,a)=>
    if ids.length<=a.length∧nodup ids=true∧ye ids (g.map (·.1))=true then
      M.bind (rj (q9 base (a.length-ids.length))) fun _=>
      M.pure (qC (vz (ids++q9 base (a.length-ids.length)) c a) r,xY g ids a r (vw (ids++q9 base (a.length-ids.length)) c a))
    else M.fail
  |none=>M.fail
def rm(s:St):List Operand->Option (List RV)
  | []=>some []
  |x::r=>match s.opd x,rm s r with
    |some v,some l=>some (v::l)
    |_,_=>none
def qA(s:St):List (Nat×Operand)->Option (List (Nat×RV))
  | []=>some []
  |(i,x)::r=>match s.opd x,qA s r with
    |some v,some l=>some ((i,v)::l)
    |_,_=>none
def pH(s:St):Option Operand->Option (Option RV)
  |none=>some none
  |some x=>match s.opd x with|some v=>some (some v)|none=>none
def notD:RV->Option (PD×Bool)
  | .d (.bool b)=>some (.bool !b,true)
  |_=>none
def negD:RV->Option (PD×Bool)
  | .d (.int k n)=>some (.int k (k.wrap (0-n)),true)
  |_=>none
def convD(P:Program)(src dst:TypeId)(x:RV):Option (PD×Bool):=
  match P.underlying src,P.underlying dst,x with
  |some (.int _),some (.int k),.d (.int _ n)=>some (.int k (k.wrap n),true)
  |some .string,some .string,.d (.str s)=>some (.str s,true)
  |_,_,_=>none
def u8s:List PD->Option (List Int)
  | []=>some []
  | .int .u8 n::r=>(match u8s r with|some l=>some (n::l)|none=>none)
  |_=>none
def strU(l:List Int):List UInt8:=l.map fun n=>UInt8.ofNat n.toNat
theorem u8s_map(l:List Int):u8s (l.map (.int .u8))=some l:=by
  induction l with
  |nil=>rfl
  |cons n l a=>simp only [List.map_cons,u8s,a]
theorem yK:∀{es:List PD}{a:List Int},u8s es=some a->es=a.map (.int .u8)
  | [],a,h=>by cases h;rfl
  |p::r,a,h=>by
    cases p<;>first|(cases h;done)|skip
    rename_i k n
    cases k<;>first|(cases h;done)|skip
    simp only [u8s]at h
    rcases c:u8s r with _|l
    · rw [c]at h;cases h
    · rw [c]at h
      cases h
      rw [yK c]
      rfl
def uS(P:Program)(id:Nat)(src dst:TypeId)(x:RV):M (RV×Ups):=
  match P.underlying src,P.underlying dst,x with
  |some .string,some (.slice e),.d (.str s)=>
    (match P.underlying e with
     |some (.int .u8)=>M.bind (M.pS id) fun _=>M.py (decide (szT P e=some 1∧s.length<=140737488355328)) (.ref id 0,[(id,.arr 0 e (s.map fun b=>.int .u8 b.toNat))])
     |_=>M.fail)
  |some (.slice e),some .string,.ref i ver=>
    (match P.underlying e with
     |some (.int .u8)=>M.bind (M.get i) fun
       | .arr a _ es=>if ver=a then(match u8s es with|some c=>qe (.d (.str (strU c)))|none=>M.fail)else M.fail
       |_=>M.fail
     |_=>M.fail)
  |some (.slice e),some .string,.d (.lst es)=>
    (match P.underlying e with
     |some (.int .u8)=>(match u8s es with|some c=>qe (.d (.str (strU c)))|none=>M.fail)
     |_=>M.fail)
  |_,_,_=>uU (convD P src dst x)
def ifcD(P:Program)(t:TypeId)(x:RV):M (RV×Ups):=
  match P.underlying t,x with
  |some (.interface _),_=>M.fail
  |some _,.d p=>qe (.ifc t (.d p))
  |some _,.ptr id off=>qe (.ifc t (.ptr id off))
  |_,_=>M.fail
def uv(P:Program)(x:RV)(asserted:TypeId)(ok:Bool):M (RV×Ups):=
  match P.underlying asserted,x with
  |some (.interface _),_=>M.fail
  |some _,.ifc t c=>if t=asserted then qe (if ok then .tup [c,.d (.bool true)]else c)else M.fail
  |_,_=>M.fail
def yw(P:Program)(t:TypeId)(name:String):Option (FuncId×Option TypeId):=
  match P.info? t with
  |some i=>
    (match i.methods.find? (·.name == name), P.underlying t with
     |some m,some u=>
       (match m.path.toList, m.func, u with
        | [],some (f,true),.pointer _=>some (f,none)
        | [],some (f,false),.pointer e=>some (f,some e)
        |_,_,_=>none)
     |_,_=>none)
  |none=>none
def uF(P:Program)(mt:Hf)(call:pA)(base:Nat)(x:RV)(name:String)(as:List RV):M (RV×Ups):=
  match x with
  | .ifc t c=>
    (match yw P t name with
     |some (f,none)=>rn mt.by_ call f base (c::as)
     |some (f,some e)=>M.bind (si P e c) fun(v,_)=>rn mt.by_ call f base (v::as)
     |none=>M.fail)
  |_=>M.fail
def pE(P:Program)(mt:Hf)(call:pA)(s:St)(o:Oper):M (RV×Ups):=
  match o.op with
  | .move x| .assign x=>(match s.opd x with|some v=>qe v|none=>M.fail)
  | .pick c a b=>
    (match s.opd c with
     |some (.d (.bool t))=>(match(if t then s.opd a else s.opd b)with|some v=>qe v|none=>M.fail)
     |_=>M.fail)
  | .alloc t=>v8 P (o.dst.getD 0*16) t
  | .box _ x=>(match s.opd x with|some v=>boxD (o.dst.getD 0*16) v|none=>M.fail)
  | .build t parts=>(match qA s parts.toList with|some l=>vg P t l|none=>M.fail)
  | .buildSlice t len parts=>(match qA s parts.toList with|some l=>q8 P (mt.lit (o.dst.getD 0)) (o.dst.getD 0*16) t len l|none=>M.fail)
  | .load t a=>(match s.opd a with|some v=>si P t v|none=>M.fail)
  | .store t a x=>(match s.opd a,s.opd x with|some v,some u=>uO P t v u|_,_=>M.fail)
  | .nilCheck x=>(match s.opd x with|some v=>vY 0 v|none=>M.fail)
  | .binOp op t x y _=>(match s.opd x,s.opd y with|some a,some b=>uU (xV P op t x y a b)|_,_=>M.fail)
  | .unOp .not _ x=>(match s.opd x with|some a=>uU (notD a)|none=>M.fail)
  | .unOp .neg _ x=>(match s.opd x with|some a=>uU (negD a)|none=>M.fail)
  | .convert src dst x=>(match s.opd x with|some a=>uS P (o.dst.getD 0*16) src dst a|none=>M.fail)
  | .makeSlice t l c=>(match s.opd l,s.opd c with|some a,some b=>qL P (o.dst.getD 0*16) t a b|_,_=>M.fail)
  | .makeMap t r=>(match pH s r with|some none=>tD P (o.dst.getD 0*16) t|_=>M.fail)
  | .lookup t x k ok=>(match s.opd x,s.opd k with|some v,some n=>te P t v n ok|_,_=>M.fail)
  | .mapUpdate t x k y=>(match s.opd x,s.opd k,s.opd y with|some v,some n,some u=>uI P t v n u|_,_,_=>M.fail)
  | .slice t x lo hi mx=>
    (match s.opd x, pH s lo, pH s hi, pH s mx with
     |some v,some l,some h,some m=>if mt.lit (o.dst.getD 0)then xC P t v l h m else qF P (o.dst.getD 0*16) t v l h m
     |_,_,_,_=>M.fail)
  | .fieldAddr t x f=>(match s.opd x with|some v=>rG P t v f|none=>M.fail)
  | .field t x f=>(match s.opd x with|some v=>wb P t v f|none=>M.fail)
  | .indexAddr t x i=>(match s.opd x,s.opd i with|some v,some n=>qw P t v n|_,_=>M.fail)
  | .index t x i=>(match s.opd x,s.opd i with|some v,some n=>vp P t v n|_,_=>M.fail)
  | .makeFunc fn first cs=>(match rm s cs.toList with|some l=>(match fn,first.toList with| .func g,[]=>qe (.clo g l)| .func g,[x]=>(match s.opd x,l with|some (.d (.agg [])),[]=>qe (.d (.raw (.func (.func g) #[.agg #[]] #[])))|_,_=>M.fail)|_,_=>M.fail)|none=>M.fail)
  | .makeInterface t x=>(match s.opd x with|some v=>ifcD P t v|none=>M.fail)
  | .typeAssert x _ t ok=>(match s.opd x with|some v=>uv P v t ok|none=>M.fail)
  | .extract x i=>
    (match s.opd x with
     |some (.tup vs)=>(match vs[i]? with|some v=>qe v|none=>M.fail)
     |_=>M.fail)
  | .call c=>
    (match c.callee, rm s c.args.toList with
     | .builtin .len,some [x]=>(if c.argTypes.size=1 then yq P (c.argTypes.getD 0 0) x else M.fail)
     | .builtin .cap,some [x]=>(if c.argTypes.size=1 then capD P (c.argTypes.getD 0 0) x else M.fail)
     | .builtin .append,some [a,x]=>(if c.argTypes.size=2 then(if c.argTypes.getD 0 0=c.argTypes.getD 1 0 then qu P (o.dst.getD 0*16) (c.argTypes.getD 0 0) (c.argTypes.getD 1 0) a x else xm P (o.dst.getD 0*16) (c.argTypes.getD 0 0) (c.argTypes.getD 1 0) a x)else M.fail)
     | .builtin .copy,some [a,x]=>(if c.argTypes.size=2 then vV P (c.argTypes.getD 0 0) a x else M.fail)
     | .builtin .clear,some [a]=>(if c.argTypes.size=1 then tU P (c.argTypes.getD 0 0) a else M.fail)
     | .builtin .min,some l=>minD l
     | .builtin .max,some l=>maxD l
     | .invoke rc name,some as=>(match s.opd rc with|some v=>uF P mt call (o.dst.getD 0*16) v name as|none=>M.fail)
     | .value f,some as=>
       (match s.opd f with
        |some (.d (.raw (.func (.func g) ⟨[]⟩ ⟨[]⟩)))=>rn mt.by_ call g (o.dst.getD 0*16) as
        |some (.d (.raw (.func (.func g) ⟨[.agg ⟨[]⟩]⟩ ⟨[]⟩)))=>rn mt.by_ call g (o.dst.getD 0*16) (.d (.agg [])::as)
        |some (.clo g cs)=>rn mt.by_ call g (o.dst.getD 0*16) (as++cs)
        |_=>M.fail)
     |_,_=>M.fail)
  |_=>M.fail
def pc(ops:Array Oper)(s:St)(o:Oper):Option Bool:=
  match o.guard with
  |none=>some true
  |some (j,want)=>
    match(ops[j]?).bind (·.dst)with
    |none=>none
    |some t=>
      match s.pI t with
      |some (.d (.bool b))=>some (b==want)
      |some .undef=>some false
      |_=>none
structure Tr where
  rd:List Nat
  wr:List Nat
def rA(P:Program)(mt:Hf)(call:pA)(ops:Array Oper)(o:Oper)(s:St):Option (St×Tr):=
  match pc ops s o with
  |some w=>
    if w then
      match pE P mt call s o s.boxes with
      |some ((v,u),rd,c)=>if c then some ((s.ups u).put o.dst v,⟨rd,u.map (·.1)⟩)else none
      |none=>none
    else some (s.put o.dst .undef,⟨[],[]⟩)
  |none=>none
def qZ(P:Program)(mt:Hf)(call:pA)(ops:Array Oper):List Oper->St->Option (St×List Tr)
  | [],s=>some (s,[])
  |o::r,s=>
    match rA P mt call ops o s with
    |some (s',t)=>(match qZ P mt call ops r s' with|some (a,ts)=>some (a,t::ts)|none=>none)
    |none=>none
def xP:List Oper->List Nat->List Nat
  | [],acc=>acc
  |o::r,acc=>xP r (acc++[o.after.toList.foldl (fun b e=>if Region.binds .any e then b ||| (2 ^ e.on ||| acc.getD e.on 0)else b) 0])
def xc(ops:Array Oper)(x:Oper×Tr)(y:Oper×Tr):Bool:=
  x.1.apart ops y.1&&ye x.2.wr y.2.rd&&ye y.2.wr x.2.rd&&ye x.2.wr y.2.wr
def sJ(ops:Array Oper)(ts:List Tr):Bool:=
  let l:=ops.toList
  let a:=xP l []
  let xs:=l.zip ts
  Region.noSelect ops&&
  (l.zipIdx.all fun(o,i)=>o.after.toList.all fun e=> !Region.binds .any e||decide (e.on<i))&&
  (xs.zipIdx.all fun(y,i)=>xs.zipIdx.all fun(x,j)=> !decide (j<i)||(a.getD i 0).testBit j||xc ops x y)
inductive Ex where
  |normal
  |exit (id:Nat)
  |ret
def uz(body:St->Option (Ex×St)):Nat->St->Option (Ex×St)
  |0,_=>none
  |n+1,s=>
    match body s with
    |some (.normal,s')=>uz body n s'
    |r=>r
inductive Pl where
  |reg (t:Nat)
  |cell (id off:Nat)
  deriving Inhabited
def sg(s:St):Pl->Option RV
  | .reg t=>s.pI t
  | .cell id off=>(match s.boxes id with|some (.var cs)=>cs[off]? |_=>none)
def sQ(s:St)(v:RV):Pl->St
  | .reg t=>{ s with pI:=fun x=>if x=t then some v else s.pI x }
  | .cell id off=>(match s.boxes id with|some (.var cs)=>{ s with boxes:=fun i=>if i=id then some (.var (cs.set off v))else s.boxes i }|_=>s)
def fixRV(id:Nat)(a:List PD):RV->RV
  | .ptr i off=>if i=id then .cptr (a.drop off)else .ptr i off
  |v=>v
inductive vU where
  |cI (pI boxes:List Nat)
  |own (reg id:Nat) (e:TypeId)
  |freeze (reg:Nat)
  |frz (p:Pl)
  |ownp (p:Pl) (id:Nat) (e:TypeId)
  |mv (p:Pl) (new:Nat)
  |fixv (id:Nat)
  |bump (reg:Nat)
  |bumpp (p:Pl)
  |ownn (p:Pl) (id:Nat) (e e2:TypeId)
  |lend (id:Nat) (i:Option Nat) (new:Nat)
  |give (id:Nat)
  |frzn (p:Pl)
  |opn (id r o:Nat)
  |cls (id:Nat)
  deriving Inhabited
def assoc{α:Type}:List (Nat×α)->Nat->Option α
  | [],_=>none
  |(k,a)::r,t=>if t=k then some a else assoc r t
def gets{α:Type}(f:Nat->Option α):List Nat->Option (List (Nat×α))
  | []=>some []
  |t::r=>match f t,gets f r with
    |some v,some l=>some ((t,v)::l)
    |_,_=>none
def pV(a:Nat)(id cur:Nat):Nat:=if id<a then min cur 1 else 0
def zM(s:St)(ess:List (List PD)):Option Nat->Option (Nat×List PD)
  |none=>(match ess[ess.length-1]? with|some es=>some (ess.length-1,es)|none=>none)
  | some t => (match s.pI t with
    |some (.d (.int _ n))=>if 0<=n then(match ess[n.toNat]? with|some es=>some (n.toNat,es)|none=>none)else none
    |_=>none)
def qV(P:Program)(g:Nat)(s:St):vU->Option St
  | .cI rs bs=>
    match gets s.pI rs,gets s.boxes bs with
    |some l,some m=>
      if(List.range g).all bs.contains then
        let ρ:Ren:=⟨fun id=>if bs.contains id then some id else none,qk s.boxes (pV g)⟩
        some { pI:=assoc (l.map fun x=>(x.1,qC ρ x.2)),boxes:=assoc (m.map fun x=>(x.1,rJ ρ (pV g x.1) x.2)) }
      else none
    |_,_=>none
  | .own t id e=>
    match s.pI t,s.boxes id,szT P e with
    |some .px,none,some (_+1)=>some { pI:=fun x=>if x=t then some (.ref id 0)else s.pI x,boxes:=fun i=>if i=id then some (.arr 0 e [])else s.boxes i }
    |some (.ref _ _),_,_=>some s
    |_,_,_=>none
  | .freeze t=>
    match s.pI t with
    |some (.ref id ver)=>
      (match s.boxes id with
       |some (.arr a _ es)=>if ver=a then some { pI:=fun x=>if x=t then some (.d (.lst es))else s.pI x,boxes:=fun i=>if i=id then some .dead else s.boxes i }else none
       |_=>none)
    |_=>none
  | .frz p=>
    match sg s p with
    |some .px=>some (sQ s (.d (.lst [])) p)
    |some (.d _)=>some s
    |some (.ref id ver)=>
      (match s.boxes id with
       |some (.arr a _ es)=>if ver=a then some (sQ { s with boxes:=fun i=>if i=id then some .dead else s.boxes i } (.d (.lst es)) p)else none
       |_=>none)
    |_=>none
  | .ownp p id e=>
    match sg s p,s.boxes id,szT P e with
    |some .px,none,some (_+1)=>some (sQ { s with boxes:=fun i=>if i=id then some (.arr 0 e [])else s.boxes i } (.ref id 0) p)
    |some (.ref _ _),_,_=>some s
    |_,_,_=>none
  | .mv p new=>
    match sg s p with
    |some .px=>some s
    |some (.ref id _)=>
      if id=new then some s else if g<=id∧g<=new then
        let ρ:Ren:=⟨fun i=>if i=id then some new else if i=new then none else some i,qk s.boxes fun _ c=>c⟩
        some { pI:=fun t=>(s.pI t).map (qC ρ),boxes:=fun i=>if i=new then(s.boxes id).map (rJ ρ fun c=>c)else if i=id then none else(s.boxes i).map (rJ ρ fun c=>c) }
      else none
    |_=>none
  | .fixv id=>
    match s.boxes id with
    |some (.var cs)=>
      (match u9 cs with
       |some y=>if y.all PD.one=true then some { pI:=fun t=>(s.pI t).map (fixRV id y),boxes:=fun i=>if i=id then some .dead else s.boxes i }else none
       |none=>none)
    |_=>none
  | .bump t=>
    match s.pI t with
    |some (.ref id ver)=>
      (match s.boxes id with
       |some (.arr a e es)=>if ver=a then some { pI:=fun x=>if x=t then some (.ref id (ver+1))else s.pI x,boxes:=fun i=>if i=id then some (.arr (ver+1) e es)else s.boxes i }else none
       |_=>none)
    |_=>none
  | .bumpp p=>
    match sg s p with
    |some (.ref id ver)=>
      (match s.boxes id with
       |some (.arr a e es)=>if ver=a then some (sQ { s with boxes:=fun i=>if i=id then some (.arr (ver+1) e es)else s.boxes i } (.ref id (ver+1)) p)else none
       |_=>none)
    |_=>none
  | .ownn p id e e2=>
    match sg s p,s.boxes id,szT P e,szT P e2 with
    |some .px,none,some 1,some (_+1)=>some (sQ { s with boxes:=fun i=>if i=id then some (.nest 0 e e2 [] none)else s.boxes i } (.ref id 0) p)
    |some (.ref _ _),_,_,_=>some s
    |_,_,_,_=>none
  | .lend id i new=>
    match s.boxes id,s.boxes new with
    |some (.nest ver e e2 ess none),none=>
      (match zM s ess i with
       |some (j,es)=>some { s with boxes:=fun k=>if k=new then some (.arr 0 e2 es)else if k=id then some (.nest ver e e2 ess (some (j,.ref new 0)))else s.boxes k }
       |none=>none)
    |_,_=>none
  | .give id=>
    match s.boxes id with
    |some (.nest ver e e2 ess (some (i,.ref k u)))=>
      (match s.boxes k with
       |some (.arr f z es)=>if u=f∧z=e2∧k≠id then some { s with boxes:=fun j=>if j=k then some .dead else if j=id then some (.nest ver e e2 (ess.set i es) none)else s.boxes j }else none
       |_=>none)
    |some (.nest _ _ _ _ (some _))=>none
    |_=>some s
  | .frzn p=>
    match sg s p with
    |some (.ref id ver)=>
      (match s.boxes id with
       |some (.nest a _ _ ess none)=>if ver=a then some (sQ { s with boxes:=fun i=>if i=id then some .dead else s.boxes i } (.d (.lst (ess.map .lst))) p)else none
       |_=>none)
    |some .px=>some (sQ s (.d (.lst [])) p)
    |some (.d _)=>some s
    |_=>none
  | .opn id r o=>
    match s.boxes id,s.pI r with
    |some (.arr ver e es),some (.d (.int _ n))=>
      (match es[n.toNat]? with
       | some x => (match x.cells[o]? with
         |some c=>some { s with boxes:=fun i=>if i=id then some (.hole ver e es n.toNat o (.d c))else s.boxes i }
         |none=>none)
       |none=>none)
    |_,_=>none
  | .cls id=>
    match s.boxes id with
    |some (.hole ver e es i o (.d c))=>if c.one=true then some { s with boxes:=fun k=>if k=id then some (.arr ver e (es.set i ((es.getD i default).put o [c])))else s.boxes k }else none
    |some (.hole ver e es i o (.ref k u))=>
      (match s.boxes k with
       |some (.arr f _ q)=>if u=f∧k≠id then some { s with boxes:=fun j=>if j=k then some .dead else if j=id then some (.arr ver e (es.set i ((es.getD i default).put o [.lst q])))else s.boxes j }else none
       |_=>none)
    |some (.hole _ _ _ _ _ _)=>none
    |_=>some s
def pK(P:Program)(a:Nat)(s:St):List vU->Option St
  | []=>some s
  |g::r=>match qV P a s g with|some s'=>pK P a s' r|none=>none
structure Hints where
  at_:FuncId->Nat->Nat->List vU
  mt:FuncId->Nat->Bool
  by_:FuncId->Nat->Bool
  own:FuncId->Nat->Bool
def Hints.hf(H:Hints)(f:FuncId):Hf:=⟨H.mt f,H.by_⟩
def wL(P:Program)(H:Hints)(f:FuncId)(a:Nat)(call:pA)(id:Nat)(ops:Array Oper)(c:Bool)(s:St):Option St:=
  match pK P a s (H.at_ f a id)with
  |none=>none
  |some s0=>
    match qZ P (H.hf f) call ops ops.toList s0 with
    |some (s',ts)=>if c then(if sJ ops ts then some s' else none)else some s'
    |none=>none
def pM(P:Program)(H:Hints)(f:FuncId)(g:Nat)(call:pA)(fuel:Nat):Code->St->Option (Ex×St)
  | .skip,s=>some (.normal,s)
  | .region id ops k,s=>(match wL P H f g call id ops k s with|some s'=>some (.normal,s')|none=>none)
  | .seq a b,s=>
    match pM P H f g call fuel a s with
    |some (.normal,s')=>pM P H f g call fuel b s'
    |r=>r
  | .cond c a b,s=>
    match s.opd c with
    |some (.d (.bool t))=>if t then pM P H f g call fuel a s else pM P H f g call fuel b s
    |_=>none
  | .block id b,s=>
    match pM P H f g call fuel b s with
    |some (.exit j,s')=>if j=id then some (.normal,s')else some (.exit j,s')
    |r=>r
  | .loop b,s=>uz (pM P H f g call fuel b) fuel s
  | .exit id,s=>some (.exit id,s)
  | .ret,s=>some (.ret,s)
  | .scope b,s=>pM P H f g call fuel b s
  | .label _,s=>some (.normal,s)
  |_,_=>none
def outV(own:Bool)(v:RV):M (RV×Ups):=
  match v with
  | .agg cs=>if own then M.pure (v,[])else M.bind (tP cs) fun(a,u)=>M.pure (.d (.agg a),u)
  | .px=>M.pure (.d (.lst []),[])
  | .ref _ _| .view _ _ _ _=>if own then M.pure (v,[])else M.bind (rQ v) fun(p,u)=>M.pure (.d p,u)
  | .tup _=>M.fail
  |v=>M.pure (v,[])
def resV(P:Program)(s:St):ResultVar->M RV
  | .tmp t=>(match s.pI t with|some v=>M.pure v|none=>M.fail)
  | .cell t ty=>M.bind (match s.pI t with|some a=>si P ty a|none=>M.fail) fun(v,_)=>M.pure v
def resD(P:Program)(own:Nat->Bool)(s:St):Nat->List ResultVar->M (List RV×Ups)
  |_,[]=>M.pure ([],[])
  |i,x::r=>M.bind (resV P s x) fun v=>M.bind (outV (own i) v) fun(y,u)=>M.bind (resD P own s (i+1) r) fun(ys,us)=>M.pure (y::ys,u++us)
def one(l:List RV):RV:=match l with| [v]=>v|l=>.tup l
def wJ(nt:Nat):Code->Bool
  | .region _ ops _=>ops.all fun o=>match o.dst with|some d=>decide (d<nt)|none=>true
  | .seq a b| .cond _ a b=>wJ nt a&&wJ nt b
  | .block _ b| .loop b| .scope b=>wJ nt b
  |_=>true
def finish(P:Program)(own:Nat->Bool)(fn:Func)(c:Nat)(s:St):Option (RV×List Box):=
  match resD P own s 0 fn.results.toList s.boxes with
  |some ((rs,u),_,true)=>
    let b1:=uQ s.boxes u
    match M.bind (rH 64 [] (List.range c++rs.flatMap xG)) (fun ids=>M.bind (ui ids) fun a=>M.pure (ids,a)) b1 with
    |some ((ids,a),_,true)=>
      if ids.take c=List.range c∧nodup ids=true then
        let ρ:Ren:=⟨idxOf ids,qk b1 (pV c)⟩
        some (qC ρ (one rs),(ids.zip a).map fun x=>rJ ρ (pV c x.1) x.2)
      else none
    |_=>none
  |_=>none
def p8(P:Program)(H:Hints)(ext:FuncId->Option pA):Nat->pA
  |0,_,_,_=>none
  |n+1,f,args,bs=>
    match ext f with
    |some g=>g f args bs
    |none=>
      match P.funcs[f]? with
      |some fn=>
        match fn.body with
        |some c=>
          if wJ fn.ntmps c && (fn.name != "runtime.NumGoroutine") && decide (args.length ≤ fn.ntmps) && bs.all (fun b => verB b == 0) then
            match pM P H f bs.length (p8 P H ext n) n c { pI:=look args,boxes:=look bs }with
            |some (.normal,s)=>finish P (H.own f) fn bs.length s
            |some (.ret,s)=>finish P (H.own f) fn bs.length s
            |_=>none
          else none
        |none=>none
      |none=>none
end Go.Dw
