
import Derived.Test.YtgdhcacjeppglaaGreatDwCore
set_option linter.unusedVariables false
set_option linter.unusedSimpArgs false

namespace Go.Dw
structure St where
  cv:Nat->Option RV
  boxes:cI
def St.put(s:St)(dst:Option Nat)(v:RV):St:=
  match dst with
  |some d=>{ s with cv:=fun t=>if t=d then some v else s.cv t }
  |none=>s
def St.ups(s:St):Ups->St
  | []=>s
  |(id,b)::r=>St.ups { s with boxes:=fun i=>if i=id then some b else s.boxes i } r
def St.opd(s:St):Operand->Option RV
  | .tmp t=>s.cv t
  | .const v=>some (cH v)
  | .func f=>some (.d (.raw (.func (.func f) #[] #[])))
  | .global _=>none
abbrev cB:=FuncId->List RV->List Box->Option (RV×List Box)
def ids1:RV->List Nat
  | .ref id _| .ptr id _| .elt id _ _ _| .view id _ _ _| .fview id _ _| .rfn id _ _=>[id]
  |_=>[]
def idsV:RV->List Nat
  | .agg cs| .tup cs| .clo _ cs=>cs.flatMap ids1
  | .ifc _ c=>ids1 c
  | .plit cs=>cs.flatMap ids1
  | .rlit cs=>cs.flatMap ids1
  | .pcp c=>ids1 c
  | .bnd _ c=>ids1 c
  |v=>ids1 v
def idsB:Box->List Nat
  | .var cs=>cs.flatMap idsV
  | .nest _ _ _ _ (some (_,rv))=>idsV rv
  | .hole _ _ _ _ _ rv=>idsV rv
  | .deep _ _ _ _ _ _ (some (_,rv))=>idsV rv
  |_=>[]
structure Ren where
  pos:Nat->Option Nat
  ver:Nat->Nat->Option Nat
def eU(ρ:Ren):RV->RV
  | .ref id ver=>(match ρ.pos id,ρ.ver id ver with|some k,some v=>.ref k v|_,_=>.junk)
  | .view id ver b a=>(match ρ.pos id,ρ.ver id ver with|some k,some v=>.view k v b a|_,_=>.junk)
  | .elt id ver i o=>(match ρ.pos id,ρ.ver id ver with|some k,some v=>.elt k v i o|_,_=>.junk)
  | .ptr id off=>(match ρ.pos id with|some k=>.ptr k off|none=>.junk)
  | .agg _=>.junk
  | .tup _=>.junk
  | .clo _ _=>.junk
  | .ifc _ _=>.junk
  | .plit _=>.junk
  | .rlit _=>.junk
  | .pcp _=>.junk
  | .bnd _ _=>.junk
  | .rfn _ _ _=>.junk
  | .fview id ver a=>(match ρ.pos id,ρ.ver id ver with|some k,some v=>.fview k v a|_,_=>.junk)
  |v=>v
def dw(ρ:Ren):RV->RV
  | .agg cs=>.agg (cs.map (eU ρ))
  | .tup cs=>.tup (cs.map (eU ρ))
  | .clo f cs=>.clo f (cs.map (eU ρ))
  | .ifc t c=>.ifc t (eU ρ c)
  | .plit cs=>.plit (cs.map (eU ρ))
  | .rlit cs=>.rlit (cs.map (eU ρ))
  | .pcp c=>.pcp (eU ρ c)
  | .bnd f c=>.bnd f (eU ρ c)
  |v=>eU ρ v
def ez(ρ:Ren)(f:Nat->Nat):Box->Box
  | .arr ver e es=>.arr (f ver) e es
  | .var cs=>.var (cs.map (dw ρ))
  | .dead=>.dead
  | .map a b es=>.map a b es
  | .nest ver e e2 ess h=>.nest (f ver) e e2 ess (match h with|some (i,rv)=>some (i,dw ρ rv)|none=>none)
  | .mapn a b e2 es h=>.mapn a b e2 es h
  | .hole ver e es i o rv=>.hole (f ver) e es i o (dw ρ rv)
  | .deep ver e es o e2 ts h=>.deep (f ver) e es o e2 ts (match h with|some (i,rv)=>some (i,dw ρ rv)|none=>none)
def da(b:cI)(f:Nat->Nat->Nat)(id ver:Nat):Option Nat:=
  match b id with
  |some (.arr cur _ _)=>if ver=cur then some (f id cur)else none
  |some (.nest cur _ _ _ _)=>if ver=cur then some (f id cur)else none
  |some (.hole cur _ _ _ _ _)=>if ver=cur then some (f id cur)else none
  |some (.deep cur _ _ _ _ _ _)=>if ver=cur then some (f id cur)else none
  |_=>none
def idxOf(l:List Nat)(id:Nat):Option Nat:=
  match l with
  | []=>none
  |a::r=>if id=a then some 0 else(idxOf r id).map (· +1)
def eV:Nat->List Nat->List Nat->M (List Nat)
  |0,_,_=>M.fail
  |_+1,done,[]=>M.pure done
  |n+1,done,i::todo=>if done.contains i then eV n done todo else M.bind (M.get i) fun b=>eV n (done++[i]) (todo++idsB b)
def hY:List Nat->M (List Box)
  | []=>M.pure []
  |i::r=>M.bind (M.get i) fun b=>M.bind (hY r) fun l=>M.pure (b::l)
def ew:List Nat->M Unit
  | []=>M.pure ()
  |i::r=>M.bind (M.cE i) fun _=>ew r
def look{α:Type}:List α->Nat->Option α
  | [],_=>none
  |a::_,0=>some a
  |_::r,n+1=>look r n
def argD(a:Bool)(v:RV):M (RV×Ups):=
  match v with
  | .ptr _ _| .elt _ _ _ _| .clo _ _| .ifc _ _=>M.pure (v,[])
  | .ref _ _| .view _ _ _ _=>if a then M.pure (v,[])else M.bind (eX v) fun(p,u)=>M.pure (.d p,u)
  | .cL=>if a then M.pure (v,[])else M.bind (eX v) fun(p,u)=>M.cr v.sized (.d p,u)
  | .agg _=>if a then M.pure (v,[])else M.bind (eX v) fun(p,u)=>M.cr v.sized (.d p,u)
  |v=>M.bind (eX v) fun(p,u)=>M.cr v.sized (.d p,u)
def hT(by_:Nat->Bool):Nat->List RV->M (List RV×Ups)
  |_,[]=>M.pure ([],[])
  |i,v::r=>M.bind (argD (by_ i) v) fun(x,u)=>M.bind (hT by_ (i+1) r) fun(l,us)=>M.pure (x::l,u++us)
def nodup:List Nat->Bool
  | []=>true
  |a::r=> !r.contains a&&nodup r
def disj(a b:List Nat):Bool:=a.all fun x=> !b.contains x
def verB:Box->Nat
  | .arr v _ _=>v
  | .nest v _ _ _ _=>v
  | .hole v _ _ _ _ _=>v
  | .deep v _ _ _ _ _ _=>v
  |_=>0
def ev(b:cI):Ups->cI
  | []=>b
  |(id,x)::r=>ev (fun i=>if i=id then some x else b i) r
structure Hf where
  lit:Nat->Bool
  by_:FuncId->Nat->Bool
def offOf(a:List Box)(k:Nat):Nat:=match look a k with|some b=>verB b|none=>0
def fr(base n:Nat):List Nat:=(List.range n).map (base+ ·)
def gB(ids:List Nat)(a:List Box):Ren:=⟨idxOf ids,da (fun i=>(idxOf ids i).bind (look a)) fun _ _=>0⟩
def kA(all:List Nat)(b a:List Box):Ren:=⟨look all,da (look a) fun k cur=>offOf b k+cur⟩
def kz(all:List Nat)(b a:List Box):Ups:=all.zip (a.zipIdx.map fun x=>ez (kA all b a) (fun cur=>offOf b x.2+cur) x.1)
def flatP:PD->Bool
  | .bool _| .int _ _| .str _=>true
  |_=>false
def jG:RV->Bool
  | .d (.agg cs)=>cs.all flatP
  | .d p=>flatP p
  | .err _=>true
  |_=>false
def flatV:RV->Bool
  | .tup cs=>cs.all jG
  |v=>jG v
def mi(b:Ups)(ids:List Nat)(a:List Box)(r:RV)(u:Ups):Ups:=if ids.isEmpty&&(a.isEmpty&&flatV r)then []else b++u
def dN(by_:FuncId->Nat->Bool)(call:cB)(f:FuncId)(base:Nat)(args:List RV):M (RV×Ups):=
  M.bind (hT (by_ f) 0 args) fun(as,c)=>
  M.bind (eV 64 [] (as.flatMap idsV)) fun ids=>
  M.bind (hY ids) fun b=>
  match call f (as.map (dw (gB ids b))) (b.map (ez (gB ids b) fun _=>0))with
  |some (r,a)=>
    if ids.length<=a.length∧nodup ids=true∧disj ids (c.map (·.1))=true then
      M.bind (ew (fr base (a.length-ids.length))) fun _=>
      M.pure (dw (kA (ids++fr base (a.length-ids.length)) b a) r,mi c ids a r (kz (ids++fr base (a.length-ids.length)) b a))
    else M.fail
  |none=>M.fail
def lenR(u:Ups)(v:RV):RV:=
  match v with
  | .ref id ver=>(match ev (fun _=>none) u id with|some (.arr a _ es)=>if ver=a then .rfn id ver es.length else v|_=>v)
  |v=>v
def mg(by_:FuncId->Nat->Bool)(call:cB)(f:FuncId)(base:Nat)(args:List RV):M (RV×Ups):=
  M.bind (dN by_ call f base args) fun x=>M.pure (lenR x.2 x.1,x.2)
def iG(b:Bool)(by_:FuncId->Nat->Bool)(call:cB)(f:FuncId)(base:Nat)(args:List RV):M (RV×Ups):=
  Bool.casesOn (motive:=fun _=>M (RV×Ups)) b (dN by_ call f base args) (mg by_ call f base args)
def fe(s:St):List Operand->Option (List RV)
  | []=>some []
  |x::r=>match s.opd x,fe s r with
    |some v,some l=>some (v::l)
    |_,_=>none
def dt(s:St):List (Nat×Operand)->Option (List (Nat×RV))
  | []=>some []
  |(i,x)::r=>match s.opd x,dt s r with
    |some v,some l=>some ((i,v)::l)
    |_,_=>none
def dv(s:St):Option Operand->Option (Option RV)
  |none=>some none
  |some x=>match s.opd x with|some v=>some (some v)|none=>none
def notD:RV->Option (PD×Bool)
  | .d (.bool b)=>some (.bool !b,true)
  |_=>none
def negD:RV->Option (PD×Bool)
  | .d (.int k n)=>some (.int k (k.wrap (0-n)),true)
  |_=>none
def convD(P:Program)(src dst:TypeId)(x:RV):Option (PD×Bool):=
  match P.underlying src,P.underlying dst,x with
  |some (.int _),some (.int k),.d (.int _ n)=>some (.int k (k.wrap n),true)
  |some .string,some .string,.d (.str s)=>some (.str s,true)
  |_,_,_=>none
def u8s:List PD->Option (List Int)
  | []=>some []
  | .int .u8 n::r=>(match u8s r with|some l=>some (n::l)|none=>none)
  |_=>none
def strU(l:List Int):List UInt8:=l.map fun n=>UInt8.ofNat n.toNat
theorem u8s_map(l:List Int):u8s (l.map (.int .u8))=some l:=by
  induction l with
  |nil=>rfl
  |cons n l a=>simp only [List.map_cons,u8s,a]
theorem kI:∀{es:List PD}{a:List Int},u8s es=some a->es=a.map (.int .u8)
  | [],a,h=>by cases h;rfl
  |p::r,a,h=>by
    cases p<;>first|(cases h;done)|skip
    rename_i k n
    cases k<;>first|(cases h;done)|skip
    simp only [u8s]at h
    rcases b:u8s r with _|l
    · rw [b]at h;cases h
    · rw [b]at h
      cases h
      rw [kI b]
      rfl
def gA(P:Program)(id:Nat)(src dst:TypeId)(x:RV):M (RV×Ups):=
  match P.underlying src,P.underlying dst,x with
  |some .string,some (.slice e),.d (.str s)=>
    (match P.underlying e with
     |some (.int .u8)=>M.bind (M.cE id) fun _=>M.cr (decide (szT P e=some 1∧s.length<=140737488355328)) (.ref id 0,[(id,.arr 0 e (s.map fun b=>.int .u8 b.toNat))])
     |_=>M.fail)
  |some (.slice e),some .string,.ref i ver=>
    (match P.underlying e with
     |some (.int .u8)=>M.bind (M.get i) fun
       | .arr a _ es=>if ver=a then(match u8s es with|some c=>cQ (.d (.str (strU c)))|none=>M.fail)else M.fail
       |_=>M.fail
     |_=>M.fail)
  |some (.slice e),some .string,.d (.lst es)=>
    (match P.underlying e with
     |some (.int .u8)=>(match u8s es with|some c=>cQ (.d (.str (strU c)))|none=>M.fail)
     |_=>M.fail)
  |_,_,_=>gD (convD P src dst x)
def ifcD(P:Program)(t:TypeId)(x:RV):M (RV×Ups):=
  match P.underlying t,x with
  |some (.interface _),_=>M.fail
  |some _,.d p=>cQ (.ifc t (.d p))
  |some _,.ptr id off=>cQ (.ifc t (.ptr id off))
  |_,_=>M.fail
def ga(P:Program)(x:RV)(asserted:TypeId)(ok:Bool):M (RV×Ups):=
  match P.underlying asserted,x with
  |some (.interface _),_=>M.fail
  |some _,.ifc t c=>if t=asserted then cQ (if ok then .tup [c,.d (.bool true)]else c)else M.fail
  |_,_=>M.fail
def ku(P:Program)(t:TypeId)(name:String):Option (FuncId×Option TypeId):=
  match P.info? t with
  |some i=>
    (match i.methods.find? (·.name == name), P.underlying t with
     |some m,some u=>
       (match m.path.toList, m.func, u with
        | [],some (f,true),.pointer _=>some (f,none)
        | [],some (f,false),.pointer e=>some (f,some e)
        |_,_,_=>none)
     |_,_=>none)
  |none=>none
def gi(P:Program)(mt:Hf)(call:cB)(base:Nat)(x:RV)(name:String)(as:List RV):M (RV×Ups):=
  match x with
  | .ifc t c=>
    (match ku P t name with
     |some (f,none)=>dN mt.by_ call f base (c::as)
     |some (f,some e)=>M.bind (e7 P e c) fun(v,_)=>dN mt.by_ call f base (v::as)
     |none=>M.fail)
  |_=>M.fail
def cX(P:Program)(mt:Hf)(call:cB)(s:St)(o:Oper):M (RV×Ups):=
  match o.op with
  | .move x| .assign x=>(match s.opd x with|some v=>cQ v|none=>M.fail)
  | .pick c a b=>
    (match s.opd c with
     |some (.d (.bool t))=>(match(if t then s.opd a else s.opd b)with|some v=>cQ v|none=>M.fail)
     |_=>M.fail)
  | .alloc t=>ib P (o.dst.getD 0*16) t
  | .box _ x=>(match s.opd x with|some v=>boxD (o.dst.getD 0*16) v|none=>M.fail)
  | .build t parts=>(match dt s parts.toList with|some l=>ig P t l|none=>M.fail)
  | .buildSlice t len parts=>(match dt s parts.toList with|some l=>if mt.lit (o.dst.getD 0+1048576)then kF P t len l else dC P (mt.lit (o.dst.getD 0)) (o.dst.getD 0*16) t len l|none=>M.fail)
  | .load t a=>(match s.opd a with|some v=>e7 P t v|none=>M.fail)
  | .store t a x=>(match s.opd a,s.opd x with|some v,some u=>gT P t v u|_,_=>M.fail)
  | .nilCheck x=>(match s.opd x with|some v=>hZ 0 v|none=>M.fail)
  | .binOp op t x y _=>(match s.opd x,s.opd y with|some a,some b=>gD (binX P op t x y a b)|_,_=>M.fail)
  | .unOp .not _ x=>(match s.opd x with|some a=>gD (notD a)|none=>M.fail)
  | .unOp .neg _ x=>(match s.opd x with|some a=>gD (negD a)|none=>M.fail)
  | .convert src dst x=>(match s.opd x with|some a=>gA P (o.dst.getD 0*16) src dst a|none=>M.fail)
  | .makeSlice t l c=>(match s.opd l,s.opd c with|some a,some b=>dZ P (o.dst.getD 0*16) t a b|_,_=>M.fail)
  | .makeMap t r=>(match dv s r with|some none=>if mt.lit (o.dst.getD 0)then fq P (o.dst.getD 0*16) t else eS P (o.dst.getD 0*16) t|_=>M.fail)
  | .mapEntry t x k=>(match s.opd x,s.opd k with|some v,some n=>eE P (o.dst.getD 0*16) t v n|_,_=>M.fail)
  | .entryStore _ x n y=>(match s.opd x,s.opd n,s.opd y with|some v,some q,some u=>dE v q u|_,_,_=>M.fail)
  | .lookup t x k ok=>(match s.opd x,s.opd k with|some v,some n=>fb P t v n ok|_,_=>M.fail)
  | .mapUpdate t x k y=>(match s.opd x,s.opd k,s.opd y with|some v,some n,some u=>gp P t v n u|_,_,_=>M.fail)
  | .slice t x j e p=>
    (match s.opd x, dv s j, dv s e, dv s p with
     |some v,some l,some h,some m=>if mt.lit (o.dst.getD 0)then kE P t v l h m else dx P (o.dst.getD 0*16) t v l h m
     |_,_,_,_=>M.fail)
  | .fieldAddr t x f=>(match s.opd x with|some v=>dX P t v f|none=>M.fail)
  | .field t x f=>(match s.opd x with|some v=>ij P t v f|none=>M.fail)
  | .indexAddr t x i=>(match s.opd x,s.opd i with|some v,some n=>dn P t v n|_,_=>M.fail)
  | .index t x i=>(match s.opd x,s.opd i with|some v,some n=>im P t v n|_,_=>M.fail)
  | .makeFunc fn first cs=>(match fe s cs.toList with|some l=>(match fn,first.toList with| .func g,[]=>cQ (.clo g l)| .func g,[x]=>(match s.opd x,l with|some (.d (.agg [])),[]=>cQ (.d (.raw (.func (.func g) #[.agg #[]] #[])))|some (.ptr id off),[]=>cQ (.bnd g (.ptr id off))|_,_=>M.fail)|_,_=>M.fail)|none=>M.fail)
  | .makeInterface t x=>(match s.opd x with|some v=>ifcD P t v|none=>M.fail)
  | .typeAssert x _ t ok=>(match s.opd x with|some v=>ga P v t ok|none=>M.fail)
  | .extract x i=>
    (match s.opd x with
     |some (.tup vs)=>(match vs[i]? with|some v=>cQ v|none=>M.fail)
     |_=>M.fail)
  | .call c=>
    (match c.callee, fe s c.args.toList with
     | .builtin .len,some [x]=>(if c.argTypes.size=1 then lenD P (c.argTypes.getD 0 0) x else M.fail)
     | .builtin .cap,some [x]=>(if c.argTypes.size=1 then capD P (c.argTypes.getD 0 0) x else M.fail)
     | .builtin .append,some [a,x]=>(if c.argTypes.size=2 then(if c.argTypes.getD 0 0=c.argTypes.getD 1 0 then dI P (o.dst.getD 0*16) (c.argTypes.getD 0 0) (c.argTypes.getD 1 0) a x else jv P (o.dst.getD 0*16) (c.argTypes.getD 0 0) (c.argTypes.getD 1 0) a x)else M.fail)
     | .builtin .copy,some [a,x]=>(if c.argTypes.size=2 then jy P (c.argTypes.getD 0 0) a x else M.fail)
     | .builtin .clear,some [a]=>(if c.argTypes.size=1 then gM P (c.argTypes.getD 0 0) a else M.fail)
     | .builtin .min,some l=>minD l
     | .builtin .max,some l=>maxD l
     | .invoke rc name,some as=>(match s.opd rc with|some v=>gi P mt call (o.dst.getD 0*16) v name as|none=>M.fail)
     | .value f,some as=>
       (match s.opd f with
        |some (.d (.raw (.func (.func g) ⟨[]⟩ ⟨[]⟩)))=>iG (mt.lit (o.dst.getD 0+2097152)) mt.by_ call g (o.dst.getD 0*16) as
        |some (.d (.raw (.func (.func g) ⟨[.agg ⟨[]⟩]⟩ ⟨[]⟩)))=>dN mt.by_ call g (o.dst.getD 0*16) (.d (.agg [])::as)
        |some (.clo g cs)=>dN mt.by_ call g (o.dst.getD 0*16) (as++cs)
        |some (.bnd g c)=>dN mt.by_ call g (o.dst.getD 0*16) (c::as)
        |_=>M.fail)
     |_,_=>M.fail)
  |_=>M.fail
def cu(ops:Array Oper)(s:St)(o:Oper):Option Bool:=
  match o.guard with
  |none=>some true
  |some (j,want)=>
    match(ops[j]?).bind (·.dst)with
    |none=>none
    |some t=>
      match s.cv t with
      |some (.d (.bool b))=>some (b==want)
      |some .undef=>some false
      |_=>none
structure Tr where
  rd:List Nat
  wr:List Nat
def dS(P:Program)(mt:Hf)(call:cB)(ops:Array Oper)(o:Oper)(s:St):Option (St×Tr):=
  match cu ops s o with
  |some w=>
    if w then
      match cX P mt call s o s.boxes with
      |some ((v,u),rd,c)=>if c then some ((s.ups u).put o.dst v,⟨rd,u.map (·.1)⟩)else none
      |none=>none
    else some (s.put o.dst .undef,⟨[],[]⟩)
  |none=>none
def dz(P:Program)(mt:Hf)(call:cB)(ops:Array Oper):List Oper->St->Option (St×List Tr)
  | [],s=>some (s,[])
  |o::r,s=>
    match dS P mt call ops o s with
    |some (s',t)=>(match dz P mt call ops r s' with|some (a,ts)=>some (a,t::ts)|none=>none)
    |none=>none
def jU:List Oper->List Nat->List Nat
  | [],acc=>acc
  |o::r,acc=>jU r (acc++[o.after.toList.foldl (fun b e=>if Region.binds .any e then b ||| (2 ^ e.on ||| acc.getD e.on 0)else b) 0])
def jk(ops:Array Oper)(x:Oper×Tr)(y:Oper×Tr):Bool:=
  x.1.apart ops y.1&&disj x.2.wr y.2.rd&&disj y.2.wr x.2.rd&&disj x.2.wr y.2.wr
def iR(ops:Array Oper)(ts:List Tr):Bool:=
  let l:=ops.toList
  let a:=jU l []
  let xs:=l.zip ts
  Region.noSelect ops&&
  (l.zipIdx.all fun(o,i)=>o.after.toList.all fun e=> !Region.binds .any e||decide (e.on<i))&&
  (xs.zipIdx.all fun(y,i)=>xs.zipIdx.all fun(x,j)=> !decide (j<i)||(a.getD i 0).testBit j||jk ops x y)
inductive Ex where
  |normal
  |exit (id:Nat)
  |ret
def gb(body:St->Option (Ex×St)):Nat->St->Option (Ex×St)
  |0,_=>none
  |n+1,s=>
    match body s with
    |some (.normal,s')=>gb body n s'
    |r=>r
inductive Pl where
  |reg (t:Nat)
  |cell (id off:Nat)
  deriving Inhabited
def dR(s:St):Pl->Option RV
  | .reg t=>s.cv t
  | .cell id off=>(match s.boxes id with|some (.var cs)=>cs[off]? |_=>none)
def ef(s:St)(v:RV):Pl->St
  | .reg t=>{ s with cv:=fun x=>if x=t then some v else s.cv x }
  | .cell id off=>(match s.boxes id with|some (.var cs)=>{ s with boxes:=fun i=>if i=id then some (.var (cs.set off v))else s.boxes i }|_=>s)
def fixRV(id:Nat)(a:List PD):RV->RV
  | .ptr i off=>if i=id then .cptr (a.drop off)else .ptr i off
  |v=>v
inductive ju where
  |aE (cv boxes:List Nat)
  |own (reg id:Nat) (e:TypeId)
  |freeze (reg:Nat)
  |frz (p:Pl)
  |ownp (p:Pl) (id:Nat) (e:TypeId)
  |mv (p:Pl) (new:Nat)
  |fixv (id:Nat)
  |bump (reg:Nat)
  |bumpp (p:Pl)
  |ownn (p:Pl) (id:Nat) (e e2:TypeId)
  |lend (id:Nat) (i:Option Nat) (new:Nat)
  |give (id:Nat)
  |frzn (p:Pl)
  |frzm (id:Nat)
  |opn (id r o:Nat)
  |cls (id:Nat)
  |ownd (p:Pl) (id:Nat) (e:TypeId) (o:Nat) (e2:TypeId) (ts:List (Nat×TypeId))
  |opnd (id r new:Nat)
  |clsd (id:Nat)
  |flatd (id n:Nat)
  deriving Inhabited
def assoc{α:Type}:List (Nat×α)->Nat->Option α
  | [],_=>none
  |(k,a)::r,t=>if t=k then some a else assoc r t
def gets{α:Type}(f:Nat->Option α):List Nat->Option (List (Nat×α))
  | []=>some []
  |t::r=>match f t,gets f r with
    |some v,some l=>some ((t,v)::l)
    |_,_=>none
def cN(a:Nat)(id cur:Nat):Nat:=if id<a then min cur 1 else 0
def lS(s:St)(ess:List (List PD)):Option Nat->Option (Nat×List PD)
  |none=>(match ess[ess.length-1]? with|some es=>some (ess.length-1,es)|none=>none)
  | some t => (match s.cv t with
    |some (.d (.int _ n))=>if 0<=n then(match ess[n.toNat]? with|some es=>some (n.toNat,es)|none=>none)else none
    |_=>none)
def eZ(P:Program)(e:TypeId)(o:Nat)(e2:TypeId):List (Nat×TypeId)->Bool
  | []=>(match szT P e,szT P e2 with|some n,some (_+1)=>decide (o<n)|_,_=>false)
  |(b,a)::ts=>(match szT P e,szT P e2 with|some n,some (_+1)=>decide (o<n)|_,_=>false)&&eZ P e2 b a ts
def jm(e2:TypeId)(row:List PD):List (Nat×TypeId)->Box
  | []=>.arr 0 e2 row
  |(o,a)::ts=>.deep 0 e2 row o a ts none
def putRow(es:List PD)(i o:Nat)(row:List PD):List PD:=es.set i ((es.getD i default).put o [.lst row])
def db(P:Program)(q:Nat)(s:St):ju->Option St
  | .aE rs bs=>
    match gets s.cv rs,gets s.boxes bs with
    |some l,some m=>
      if(List.range q).all bs.contains then
        let ρ:Ren:=⟨fun id=>if bs.contains id then some id else none,da s.boxes (cN q)⟩
        some { cv:=assoc (l.map fun x=>(x.1,dw ρ x.2)),boxes:=assoc (m.map fun x=>(x.1,ez ρ (cN q x.1) x.2)) }
      else none
    |_,_=>none
  | .own t id e=>
    match s.cv t,s.boxes id,szT P e with
    |some .cL,none,some (_+1)=>some { cv:=fun x=>if x=t then some (.ref id 0)else s.cv x,boxes:=fun i=>if i=id then some (.arr 0 e [])else s.boxes i }
    |some (.ref _ _),_,_=>some s
    |_,_,_=>none
  | .freeze t=>
    match s.cv t with
    |some (.ref id ver)=>
      (match s.boxes id with
       |some (.arr a _ es)=>if ver=a then some { cv:=fun x=>if x=t then some (.d (.lst es))else s.cv x,boxes:=fun i=>if i=id then some .dead else s.boxes i }else none
       |_=>none)
    |_=>none
  | .frz p=>
    match dR s p with
    |some .cL=>some (ef s (.d (.lst [])) p)
    |some (.d _)=>some s
    |some (.ref id ver)=>
      (match s.boxes id with
       |some (.arr a _ es)=>if ver=a then some (ef { s with boxes:=fun i=>if i=id then some .dead else s.boxes i } (.d (.lst es)) p)else none
       |_=>none)
    |_=>none
  | .ownp p id e=>
    match dR s p,s.boxes id,szT P e with
    |some .cL,none,some (_+1)=>some (ef { s with boxes:=fun i=>if i=id then some (.arr 0 e [])else s.boxes i } (.ref id 0) p)
    |some (.ref _ _),_,_=>some s
    |_,_,_=>none
  | .mv p new=>
    match dR s p with
    |some .cL=>some s
    |some (.ref id _)=>
      if id=new then some s else if q<=id∧q<=new then
        let ρ:Ren:=⟨fun i=>if i=id then some new else if i=new then none else some i,da s.boxes fun _ c=>c⟩
        some { cv:=fun t=>(s.cv t).map (dw ρ),boxes:=fun i=>if i=new then(s.boxes id).map (ez ρ fun c=>c)else if i=id then none else(s.boxes i).map (ez ρ fun c=>c) }
      else none
    |_=>none
  | .fixv id=>
    match s.boxes id with
    |some (.var cs)=>
      (match fQ cs with
       |some v=>if v.all PD.one=true then some { cv:=fun t=>(s.cv t).map (fixRV id v),boxes:=fun i=>if i=id then some .dead else s.boxes i }else none
       |none=>none)
    |_=>none
  | .bump t=>
    match s.cv t with
    |some (.ref id ver)=>
      (match s.boxes id with
       |some (.arr a e es)=>if ver=a then some { cv:=fun x=>if x=t then some (.ref id (ver+1))else s.cv x,boxes:=fun i=>if i=id then some (.arr (ver+1) e es)else s.boxes i }else none
       |_=>none)
    |_=>none
  | .bumpp p=>
    match dR s p with
    |some (.ref id ver)=>
      (match s.boxes id with
       |some (.arr a e es)=>if ver=a then some (ef { s with boxes:=fun i=>if i=id then some (.arr (ver+1) e es)else s.boxes i } (.ref id (ver+1)) p)else none
       |some (.deep a e es o e2 ts h)=>if ver=a then some (ef { s with boxes:=fun i=>if i=id then some (.deep (ver+1) e es o e2 ts h)else s.boxes i } (.ref id (ver+1)) p)else none
       |_=>none)
    |_=>none
  | .ownn p id e e2=>
    match dR s p,s.boxes id,szT P e,szT P e2 with
    |some .cL,none,some 1,some (_+1)=>some (ef { s with boxes:=fun i=>if i=id then some (.nest 0 e e2 [] none)else s.boxes i } (.ref id 0) p)
    |some (.ref _ _),_,_,_=>some s
    |_,_,_,_=>none
  | .lend id i new=>
    match s.boxes id,s.boxes new with
    |some (.nest ver e e2 ess none),none=>
      (match lS s ess i with
       |some (j,es)=>some { s with boxes:=fun k=>if k=new then some (.arr 0 e2 es)else if k=id then some (.nest ver e e2 ess (some (j,.ref new 0)))else s.boxes k }
       |none=>none)
    |_,_=>none
  | .give id=>
    match s.boxes id with
    |some (.nest ver e e2 ess (some (i,.ref k g)))=>
      (match s.boxes k with
       |some (.arr f y es)=>if g=f∧y=e2∧k≠id then some { s with boxes:=fun j=>if j=k then some .dead else if j=id then some (.nest ver e e2 (ess.set i es) none)else s.boxes j }else none
       |_=>none)
    |some (.nest _ _ _ _ (some _))=>none
    |_=>some s
  | .frzn p=>
    match dR s p with
    |some (.ref id ver)=>
      (match s.boxes id with
       |some (.nest a _ _ ess none)=>if ver=a then some (ef { s with boxes:=fun i=>if i=id then some .dead else s.boxes i } (.d (.lst (ess.map .lst))) p)else none
       |_=>none)
    |some .cL=>some (ef s (.d (.lst [])) p)
    |some (.d _)=>some s
    |_=>none
  | .frzm id=>
    match s.boxes id with
    |some (.mapn z B _ es none)=>some { s with boxes:=fun i=>if i=id then some (.map z B (jO es))else s.boxes i }
    |some (.mapn _ _ _ _ (some _))=>none
    |_=>some s
  | .opn id r o=>
    match s.boxes id,s.cv r with
    |some (.arr ver e es),some (.d (.int _ n))=>
      (match es[n.toNat]? with
       | some x => (match x.cells[o]? with
         |some c=>some { s with boxes:=fun i=>if i=id then some (.hole ver e es n.toNat o (.d c))else s.boxes i }
         |none=>none)
       |none=>none)
    |_,_=>none
  | .cls id=>
    match s.boxes id with
    |some (.hole ver e es i o (.d c))=>if c.one=true then some { s with boxes:=fun k=>if k=id then some (.arr ver e (es.set i ((es.getD i default).put o [c])))else s.boxes k }else none
    |some (.hole ver e es i o (.ref k g))=>
      (match s.boxes k with
       |some (.arr f _ u)=>if g=f∧k≠id then some { s with boxes:=fun j=>if j=k then some .dead else if j=id then some (.arr ver e (es.set i ((es.getD i default).put o [.lst u])))else s.boxes j }else none
       |_=>none)
    |some (.hole _ _ _ _ _ _)=>none
    |_=>some s
  | .ownd p id e o e2 ts=>
    match dR s p,s.boxes id with
    |some .cL,none=>if eZ P e o e2 ts=true then some (ef { s with boxes:=fun i=>if i=id then some (.deep 0 e [] o e2 ts none)else s.boxes i } (.ref id 0) p)else none
    |some (.ref _ _),_=>some s
    |_,_=>none
  | .opnd id r new=>
    match s.boxes id,s.cv r,s.boxes new with
    |some (.deep ver e es o e2 ts none),some (.d (.int _ n)),none=>
      (match es[n.toNat]? with
       | some x => (match x.cells[o]? with
         |some (.lst row)=>some { s with boxes:=fun i=>if i=new then some (jm e2 row ts)else if i=id then some (.deep ver e es o e2 ts (some (n.toNat,.ref new 0)))else s.boxes i }
         |_=>none)
       |none=>none)
    |_,_,_=>none
  | .clsd id=>
    match s.boxes id with
    |some (.deep ver e es o e2 ts (some (i,.ref k g)))=>
      (match s.boxes k with
       | some b => (match ie ts e2 g b with
         |some row=>if k≠id then some { s with boxes:=fun j=>if j=k then some .dead else if j=id then some (.deep ver e (putRow es i o row) o e2 ts none)else s.boxes j }else none
         |none=>none)
       |none=>none)
    |some (.deep ver e es o e2 ts (some (i,.cL)))=>some { s with boxes:=fun j=>if j=id then some (.deep ver e (putRow es i o []) o e2 ts none)else s.boxes j }
    |some (.deep _ _ _ _ _ _ (some _))=>none
    |_=>some s
  | .flatd id n=>
    match s.boxes id,n with
    |some (.deep ver e es _ _ _ none),0=>some { s with boxes:=fun i=>if i=id then some (.arr ver e es)else s.boxes i }
    |some (.deep _ _ _ _ _ _ (some _)),0=>none
    |some (.deep ver e es o e2 ts h),n+1=>some { s with boxes:=fun i=>if i=id then some (.deep ver e es o e2 (ts.take n) h)else s.boxes i }
    |_,_=>some s
def dY(P:Program)(a:Nat)(s:St):List ju->Option St
  | []=>some s
  |g::r=>match db P a s g with|some s'=>dY P a s' r|none=>none
structure Hints where
  at_:FuncId->Nat->Nat->List ju
  mt:FuncId->Nat->Bool
  by_:FuncId->Nat->Bool
  own:FuncId->Nat->Bool
def Hints.hf(H:Hints)(f:FuncId):Hf:=⟨H.mt f,H.by_⟩
def iK(P:Program)(H:Hints)(f:FuncId)(a:Nat)(call:cB)(id:Nat)(ops:Array Oper)(b:Bool)(s:St):Option St:=
  match dY P a s (H.at_ f a id)with
  |none=>none
  |some s0=>
    match dz P (H.hf f) call ops ops.toList s0 with
    |some (s',ts)=>if b then(if iR ops ts then some s' else none)else some s'
    |none=>none
def cG(P:Program)(H:Hints)(f:FuncId)(e:Nat)(call:cB)(fuel:Nat):Code->St->Option (Ex×St)
  | .skip,s=>some (.normal,s)
  | .region id ops i,s=>(match iK P H f e call id ops i s with|some s'=>some (.normal,s')|none=>none)
  | .seq a b,s=>
    match cG P H f e call fuel a s with
    |some (.normal,s')=>cG P H f e call fuel b s'
    |r=>r
  | .cond c a b,s=>
    match s.opd c with
    |some (.d (.bool t))=>if t then cG P H f e call fuel a s else cG P H f e call fuel b s
    |_=>none
  | .block id b,s=>
    match cG P H f e call fuel b s with
    |some (.exit g,s')=>if g=id then some (.normal,s')else some (.exit g,s')
    |r=>r
  | .loop b,s=>gb (cG P H f e call fuel b) fuel s
  | .exit id,s=>some (.exit id,s)
  | .ret,s=>some (.ret,s)
  | .scope b,s=>cG P H f e call fuel b s
  | .label _,s=>some (.normal,s)
  |_,_=>none
def outV(own:Bool)(v:RV):M (RV×Ups):=
  match v with
  | .agg cs=>if own then M.pure (v,[])else M.bind (fH cs) fun(a,u)=>M.pure (.d (.agg a),u)
  | .cL=>M.pure (.d (.lst []),[])
  | .ref _ _| .view _ _ _ _=>if own then M.pure (v,[])else M.bind (eX v) fun(p,u)=>M.pure (.d p,u)
  | .tup _=>M.fail
  |v=>M.pure (v,[])
def resV(P:Program)(s:St):ResultVar->M RV
  | .tmp t=>(match s.cv t with|some v=>M.pure v|none=>M.fail)
  | .cell t ty=>M.bind (match s.cv t with|some a=>e7 P ty a|none=>M.fail) fun(v,_)=>M.pure v
def resD(P:Program)(own:Nat->Bool)(s:St):Nat->List ResultVar->M (List RV×Ups)
  |_,[]=>M.pure ([],[])
  |i,x::r=>M.bind (resV P s x) fun v=>M.bind (outV (own i) v) fun(y,u)=>M.bind (resD P own s (i+1) r) fun(ys,us)=>M.pure (y::ys,u++us)
def one(l:List RV):RV:=match l with| [v]=>v|l=>.tup l
def jz(nt:Nat):Code->Bool
  | .region _ ops _=>ops.all fun o=>match o.dst with|some d=>decide (d<nt)|none=>true
  | .seq a b| .cond _ a b=>jz nt a&&jz nt b
  | .block _ b| .loop b| .scope b=>jz nt b
  |_=>true
def finish(P:Program)(own:Nat->Bool)(fn:Func)(b:Nat)(s:St):Option (RV×List Box):=
  match resD P own s 0 fn.results.toList s.boxes with
  |some ((rs,u),_,true)=>
    let c:=ev s.boxes u
    match M.bind (eV 64 [] (List.range b++rs.flatMap idsV)) (fun ids=>M.bind (hY ids) fun a=>M.pure (ids,a)) c with
    |some ((ids,a),_,true)=>
      if ids.take b=List.range b∧nodup ids=true then
        let ρ:Ren:=⟨idxOf ids,da c (cN b)⟩
        some (dw ρ (one rs),(ids.zip a).map fun x=>ez ρ (cN b x.1) x.2)
      else none
    |_=>none
  |_=>none
def c7(P:Program)(H:Hints)(ext:FuncId->Option cB):Nat->cB
  |0,_,_,_=>none
  |n+1,f,args,bs=>
    match ext f with
    |some g=>g f args bs
    |none=>
      match P.funcs[f]? with
      |some fn=>
        match fn.body with
        |some c=>
          if jz fn.ntmps c && (fn.name != "runtime.NumGoroutine") && decide (args.length ≤ fn.ntmps) && bs.all (fun b => verB b == 0) then
            match cG P H f bs.length (c7 P H ext n) n c { cv:=look args,boxes:=look bs }with
            |some (.normal,s)=>finish P (H.own f) fn bs.length s
            |some (.ret,s)=>finish P (H.own f) fn bs.length s
            |_=>none
          else none
        |none=>none
      |none=>none
end Go.Dw
