
import Derived.Test.YtfmoipelhfkdkaaGreatDoorDwCore
set_option linter.unusedVariables false
set_option linter.unusedSimpArgs false

namespace Go.Dw
structure St where
  rJ:Nat->Option RV
  boxes:rY
def St.put(s:St)(dst:Option Nat)(v:RV):St:=
  match dst with
  |some d=>{ s with rJ:=fun t=>if t=d then some v else s.rJ t }
  |none=>s
def St.ups(s:St):Ups->St
  | []=>s
  |(id,b)::r=>St.ups { s with boxes:=fun i=>if i=id then some b else s.boxes i } r
def St.opd(s:St):Operand->Option RV
  | .tmp t=>s.rJ t
  | .const v=>some (sd v)
  | .func f=>some (.d (.raw (.func (.func f) #[] #[])))
  | .global _=>none
abbrev rA:=FuncId->List RV->List Box->Option (RV×List Box)
def ids1:RV->List Nat
  | .ref id _| .ptr id _| .elt id _ _ _| .view id _ _ _| .fview id _ _=>[id]
  |_=>[]
def Af:RV->List Nat
  | .agg cs| .tup cs| .clo _ cs=>cs.flatMap ids1
  | .ifc _ c=>ids1 c
  | .plit cs=>cs.flatMap ids1
  | .pcp c=>ids1 c
  |v=>ids1 v
def idsB:Box->List Nat
  | .var cs=>cs.flatMap Af
  | .nest _ _ _ _ (some (_,rv))=>Af rv
  | .hole _ _ _ _ _ rv=>Af rv
  |_=>[]
structure Ren where
  pos:Nat->Option Nat
  ver:Nat->Nat->Option Nat
def vQ(ρ:Ren):RV->RV
  | .ref id ver=>(match ρ.pos id,ρ.ver id ver with|some k,some v=>.ref k v|_,_=>.junk)
  | .view id ver lo hi=>(match ρ.pos id,ρ.ver id ver with|some k,some v=>.view k v lo hi|_,_=>.junk)
  | .elt id ver i o=>(match ρ.pos id,ρ.ver id ver with|some k,some v=>.elt k v i o|_,_=>.junk)
  | .ptr id off=>(match ρ.pos id with|some k=>.ptr k off|none=>.junk)
  | .agg _=>.junk
  | .tup _=>.junk
  | .clo _ _=>.junk
  | .ifc _ _=>.junk
  | .plit _=>.junk
  | .pcp _=>.junk
  | .fview id ver hi=>(match ρ.pos id,ρ.ver id ver with|some k,some v=>.fview k v hi|_,_=>.junk)
  |v=>v
def tl(ρ:Ren):RV->RV
  | .agg cs=>.agg (cs.map (vQ ρ))
  | .tup cs=>.tup (cs.map (vQ ρ))
  | .clo f cs=>.clo f (cs.map (vQ ρ))
  | .ifc t c=>.ifc t (vQ ρ c)
  | .plit cs=>.plit (cs.map (vQ ρ))
  | .pcp c=>.pcp (vQ ρ c)
  |v=>vQ ρ v
def ui(ρ:Ren)(f:Nat->Nat):Box->Box
  | .arr ver e es=>.arr (f ver) e es
  | .var cs=>.var (cs.map (tl ρ))
  | .dead=>.dead
  | .map g j es=>.map g j es
  | .nest ver e e2 ess h=>.nest (f ver) e e2 ess (match h with|some (i,rv)=>some (i,tl ρ rv)|none=>none)
  | .hole ver e es i o rv=>.hole (f ver) e es i o (tl ρ rv)
def sD(b:rY)(f:Nat->Nat->Nat)(id ver:Nat):Option Nat:=
  match b id with
  |some (.arr cur _ _)=>if ver=cur then some (f id cur)else none
  |some (.nest cur _ _ _ _)=>if ver=cur then some (f id cur)else none
  |some (.hole cur _ _ _ _ _)=>if ver=cur then some (f id cur)else none
  |_=>none
def idxOf(l:List Nat)(id:Nat):Option Nat:=
  match l with
  | []=>none
  |a::r=>if id=a then some 0 else(idxOf r id).map (· +1)
def uz:Nat->List Nat->List Nat->M (List Nat)
  |0,_,_=>M.fail
  |_+1,done,[]=>M.pure done
  |n+1,done,i::todo=>if done.contains i then uz n done todo else M.bind (M.get i) fun b=>uz n (done++[i]) (todo++idsB b)
def wM:List Nat->M (List Box)
  | []=>M.pure []
  |i::r=>M.bind (M.get i) fun b=>M.bind (wM r) fun l=>M.pure (b::l)
def tM:List Nat->M Unit
  | []=>M.pure ()
  |i::r=>M.bind (M.rX i) fun _=>tM r
def look{α:Type}:List α->Nat->Option α
  | [],_=>none
  |a::_,0=>some a
  |_::r,n+1=>look r n
def argD(f:Bool)(v:RV):M (RV×Ups):=
  match v with
  | .ptr _ _| .elt _ _ _ _| .clo _ _| .ifc _ _=>M.pure (v,[])
  | .ref _ _| .view _ _ _ _=>if f then M.pure (v,[])else M.bind (uB v) fun(p,u)=>M.pure (.d p,u)
  | .pY=>if f then M.pure (v,[])else M.bind (uB v) fun(p,u)=>M.rq v.sized (.d p,u)
  | .agg _=>if f then M.pure (v,[])else M.bind (uB v) fun(p,u)=>M.rq v.sized (.d p,u)
  |v=>M.bind (uB v) fun(p,u)=>M.rq v.sized (.d p,u)
def vU(by_:Nat->Bool):Nat->List RV->M (List RV×Ups)
  |_,[]=>M.pure ([],[])
  |i,v::r=>M.bind (argD (by_ i) v) fun(x,u)=>M.bind (vU by_ (i+1) r) fun(l,us)=>M.pure (x::l,u++us)
def nodup:List Nat->Bool
  | []=>true
  |a::r=> !r.contains a&&nodup r
def zT(a b:List Nat):Bool:=a.all fun x=> !b.contains x
def verB:Box->Nat
  | .arr v _ _=>v
  | .nest v _ _ _ _=>v
  | .hole v _ _ _ _ _=>v
  |_=>0
def yr(b:rY):Ups->rY
  | []=>b
  |(id,x)::r=>yr (fun i=>if i=id then some x else b i) r
structure Hf where
  lit:Nat->Bool
  by_:FuncId->Nat->Bool
def offOf(f:List Box)(k:Nat):Nat:=match look f k with|some b=>verB b|none=>0
def tI(base n:Nat):List Nat:=(List.range n).map (base+ ·)
def uO(ids:List Nat)(f:List Box):Ren:=⟨idxOf ids,sD (fun i=>(idxOf ids i).bind (look f)) fun _ _=>0⟩
def xd(all:List Nat)(g f:List Box):Ren:=⟨look all,sD (look f) fun k cur=>offOf g k+cur⟩
def xc(all:List Nat)(g f:List Box):Ups:=all.zip (f.zipIdx.map fun x=>ui (xd all g f) (fun cur=>offOf g x.2+cur) x.1)
def flatP:PD->Bool
  | .bool _| .int _ _| .str _=>true
  |_=>false
def zg:RV->Bool
  | .d (.agg cs)=>cs.all flatP
  | .d p=>flatP p
  | .err _=>true
  |_=>false
def flatV:RV->Bool
  | .tup cs=>cs.all zg
  |v=>zg v
def zN(g:Ups)(ids:List Nat)(f:List Box)(r:RV)(u:Ups):Ups:=if ids.isEmpty&&(f.isEmpty&&flatV r)then []else g++u
def tQ(by_:FuncId->Nat->Bool)(call:rA)(f:FuncId)(base:Nat)(args:List RV):M (RV×Ups):=
  M.bind (vU (by_ f) 0 args) fun(as,k)=>
  M.bind (uz 64 [] (as.flatMap Af)) fun ids=>
  M.bind (wM ids) fun j=>
  match call f (as.map (tl (uO ids j))) (j.map (ui (uO ids j) fun _=>0))with
  |some (r,g)=>
    if ids.length<=g.length∧nodup ids=true∧zT ids (k.map (·.1))=true then
      M.bind (tM (tI base (g.length-ids.length))) fun _=>
      M.pure (tl (xd (ids++tI base (g.length-ids.length)) j g) r,zN k ids g r (xc (ids++tI base (g.length-ids.length)) j g))
    else M.fail
  |none=>M.fail
def tE(s:St):List Operand->Option (List RV)
  | []=>some []
  |x::r=>match s.opd x,tE s r with
    |some v,some l=>some (v::l)
    |_,_=>none
def tj(s:St):List (Nat×Operand)->Option (List (Nat×RV))
  | []=>some []
  |(i,x)::r=>match s.opd x,tj s r with
    |some v,some l=>some ((i,v)::l)
    |_,_=>none
def rH(s:St):Option Operand->Option (Option RV)
  |none=>some none
  |some x=>match s.opd x with|some v=>some (some v)|none=>none
def notD:RV->Option (PD×Bool)
  | .d (.bool b)=>some (.bool !b,true)
  |_=>none
def negD:RV->Option (PD×Bool)
  | .d (.int k n)=>some (.int k (k.wrap (0-n)),true)
  |_=>none
def convD(P:Program)(src dst:TypeId)(x:RV):Option (PD×Bool):=
  match P.underlying src,P.underlying dst,x with
  |some (.int _),some (.int k),.d (.int _ n)=>some (.int k (k.wrap n),true)
  |some .string,some .string,.d (.str s)=>some (.str s,true)
  |_,_,_=>none
def u8s:List PD->Option (List Int)
  | []=>some []
  | .int .u8 n::r=>(match u8s r with|some l=>some (n::l)|none=>none)
  |_=>none
def strU(l:List Int):List UInt8:=l.map fun n=>UInt8.ofNat n.toNat
theorem u8s_map(l:List Int):u8s (l.map (.int .u8))=some l:=by
  induction l with
  |nil=>rfl
  |cons n l f=>simp only [List.map_cons,u8s,f]
theorem AA:∀{es:List PD}{ns:List Int},u8s es=some ns->es=ns.map (.int .u8)
  | [],ns,h=>by cases h;rfl
  |p::r,ns,h=>by
    cases p<;>first|(cases h;done)|skip
    rename_i k n
    cases k<;>first|(cases h;done)|skip
    simp only [u8s]at h
    rcases f:u8s r with _|l
    · rw [f]at h;cases h
    · rw [f]at h
      cases h
      rw [AA f]
      rfl
def wL(P:Program)(id:Nat)(src dst:TypeId)(x:RV):M (RV×Ups):=
  match P.underlying src,P.underlying dst,x with
  |some .string,some (.slice e),.d (.str s)=>
    (match P.underlying e with
     |some (.int .u8)=>M.bind (M.rX id) fun _=>M.rq (decide (szT P e=some 1∧s.length<=140737488355328)) (.ref id 0,[(id,.arr 0 e (s.map fun b=>.int .u8 b.toNat))])
     |_=>M.fail)
  |some (.slice e),some .string,.ref i ver=>
    (match P.underlying e with
     |some (.int .u8)=>M.bind (M.get i) fun
       | .arr f _ es=>if ver=f then(match u8s es with|some ns=>sn (.d (.str (strU ns)))|none=>M.fail)else M.fail
       |_=>M.fail
     |_=>M.fail)
  |some (.slice e),some .string,.d (.lst es)=>
    (match P.underlying e with
     |some (.int .u8)=>(match u8s es with|some ns=>sn (.d (.str (strU ns)))|none=>M.fail)
     |_=>M.fail)
  |_,_,_=>wN (convD P src dst x)
def ifcD(P:Program)(t:TypeId)(x:RV):M (RV×Ups):=
  match P.underlying t,x with
  |some (.interface _),_=>M.fail
  |some _,.d p=>sn (.ifc t (.d p))
  |some _,.ptr id off=>sn (.ifc t (.ptr id off))
  |_,_=>M.fail
def we(P:Program)(x:RV)(asserted:TypeId)(ok:Bool):M (RV×Ups):=
  match P.underlying asserted,x with
  |some (.interface _),_=>M.fail
  |some _,.ifc t c=>if t=asserted then sn (if ok then .tup [c,.d (.bool true)]else c)else M.fail
  |_,_=>M.fail
def Al(P:Program)(t:TypeId)(name:String):Option (FuncId×Option TypeId):=
  match P.info? t with
  |some i=>
    (match i.methods.find? (·.name == name), P.underlying t with
     |some m,some u=>
       (match m.path.toList, m.func, u with
        | [],some (f,true),.pointer _=>some (f,none)
        | [],some (f,false),.pointer e=>some (f,some e)
        |_,_,_=>none)
     |_,_=>none)
  |none=>none
def wz(P:Program)(mt:Hf)(call:rA)(base:Nat)(x:RV)(name:String)(as:List RV):M (RV×Ups):=
  match x with
  | .ifc t c=>
    (match Al P t name with
     |some (f,none)=>tQ mt.by_ call f base (c::as)
     |some (f,some e)=>M.bind (uf P e c) fun(v,_)=>tQ mt.by_ call f base (v::as)
     |none=>M.fail)
  |_=>M.fail
def rz(P:Program)(mt:Hf)(call:rA)(s:St)(o:Oper):M (RV×Ups):=
  match o.op with
  | .move x| .assign x=>(match s.opd x with|some v=>sn v|none=>M.fail)
  | .pick c a b=>
    (match s.opd c with
     |some (.d (.bool t))=>(match(if t then s.opd a else s.opd b)with|some v=>sn v|none=>M.fail)
     |_=>M.fail)
  | .alloc t=>xG P (o.dst.getD 0*16) t
  | .box _ x=>(match s.opd x with|some v=>boxD (o.dst.getD 0*16) v|none=>M.fail)
  | .build t parts=>(match tj s parts.toList with|some l=>wW P t l|none=>M.fail)
  | .buildSlice t len parts=>(match tj s parts.toList with|some l=>tG P (mt.lit (o.dst.getD 0)) (o.dst.getD 0*16) t len l|none=>M.fail)
  | .load t a=>(match s.opd a with|some v=>uf P t v|none=>M.fail)
  | .store t a x=>(match s.opd a,s.opd x with|some v,some u=>vv P t v u|_,_=>M.fail)
  | .nilCheck x=>(match s.opd x with|some v=>xD 0 v|none=>M.fail)
  | .binOp op t x y _=>(match s.opd x,s.opd y with|some a,some b=>wN (zJ P op t x y a b)|_,_=>M.fail)
  | .unOp .not _ x=>(match s.opd x with|some a=>wN (notD a)|none=>M.fail)
  | .unOp .neg _ x=>(match s.opd x with|some a=>wN (negD a)|none=>M.fail)
  | .convert src dst x=>(match s.opd x with|some a=>wL P (o.dst.getD 0*16) src dst a|none=>M.fail)
  | .makeSlice t l c=>(match s.opd l,s.opd c with|some a,some b=>tq P (o.dst.getD 0*16) t a b|_,_=>M.fail)
  | .makeMap t r=>(match rH s r with|some none=>vr P (o.dst.getD 0*16) t|_=>M.fail)
  | .lookup t x k ok=>(match s.opd x,s.opd k with|some v,some n=>uX P t v n ok|_,_=>M.fail)
  | .mapUpdate t x k y=>(match s.opd x,s.opd k,s.opd y with|some v,some n,some u=>uY P t v n u|_,_,_=>M.fail)
  | .slice t x lo hi j=>
    (match s.opd x, rH s lo, rH s hi, rH s j with
     |some v,some l,some h,some m=>if mt.lit (o.dst.getD 0)then zl P t v l h m else tk P (o.dst.getD 0*16) t v l h m
     |_,_,_,_=>M.fail)
  | .fieldAddr t x f=>(match s.opd x with|some v=>ud P t v f|none=>M.fail)
  | .field t x f=>(match s.opd x with|some v=>xJ P t v f|none=>M.fail)
  | .indexAddr t x i=>(match s.opd x,s.opd i with|some v,some n=>sx P t v n|_,_=>M.fail)
  | .index t x i=>(match s.opd x,s.opd i with|some v,some n=>w5 P t v n|_,_=>M.fail)
  | .makeFunc fn first cs=>(match tE s cs.toList with|some l=>(match fn,first.toList with| .func g,[]=>sn (.clo g l)| .func g,[x]=>(match s.opd x,l with|some (.d (.agg [])),[]=>sn (.d (.raw (.func (.func g) #[.agg #[]] #[])))|_,_=>M.fail)|_,_=>M.fail)|none=>M.fail)
  | .makeInterface t x=>(match s.opd x with|some v=>ifcD P t v|none=>M.fail)
  | .typeAssert x _ t ok=>(match s.opd x with|some v=>we P v t ok|none=>M.fail)
  | .extract x i=>
    (match s.opd x with
     |some (.tup vs)=>(match vs[i]? with|some v=>sn v|none=>M.fail)
     |_=>M.fail)
  | .call c=>
    (match c.callee, tE s c.args.toList with
     | .builtin .len,some [x]=>(if c.argTypes.size=1 then yH P (c.argTypes.getD 0 0) x else M.fail)
     | .builtin .cap,some [x]=>(if c.argTypes.size=1 then capD P (c.argTypes.getD 0 0) x else M.fail)
     | .builtin .append,some [a,x]=>(if c.argTypes.size=2 then(if c.argTypes.getD 0 0=c.argTypes.getD 1 0 then sy P (o.dst.getD 0*16) (c.argTypes.getD 0 0) (c.argTypes.getD 1 0) a x else yT P (o.dst.getD 0*16) (c.argTypes.getD 0 0) (c.argTypes.getD 1 0) a x)else M.fail)
     | .builtin .clear,some [a]=>(if c.argTypes.size=1 then vM P (c.argTypes.getD 0 0) a else M.fail)
     | .builtin .min,some l=>minD l
     | .builtin .max,some l=>maxD l
     | .invoke rc name,some as=>(match s.opd rc with|some v=>wz P mt call (o.dst.getD 0*16) v name as|none=>M.fail)
     | .value f,some as=>
       (match s.opd f with
        |some (.d (.raw (.func (.func g) ⟨[]⟩ ⟨[]⟩)))=>tQ mt.by_ call g (o.dst.getD 0*16) as
        |some (.d (.raw (.func (.func g) ⟨[.agg ⟨[]⟩]⟩ ⟨[]⟩)))=>tQ mt.by_ call g (o.dst.getD 0*16) (.d (.agg [])::as)
        |some (.clo g cs)=>tQ mt.by_ call g (o.dst.getD 0*16) (as++cs)
        |_=>M.fail)
     |_,_=>M.fail)
  |_=>M.fail
def ou(ops:Array Oper)(s:St)(o:Oper):Option Bool:=
  match o.guard with
  |none=>some true
  |some (j,want)=>
    match(ops[j]?).bind (·.dst)with
    |none=>none
    |some t=>
      match s.rJ t with
      |some (.d (.bool b))=>some (b==want)
      |some .undef=>some false
      |_=>none
structure Tr where
  rd:List Nat
  wr:List Nat
def step1(P:Program)(mt:Hf)(call:rA)(ops:Array Oper)(o:Oper)(s:St):Option (St×Tr):=
  match ou ops s o with
  |some w=>
    if w then
      match rz P mt call s o s.boxes with
      |some ((v,u),rd,c)=>if c then some ((s.ups u).put o.dst v,⟨rd,u.map (·.1)⟩)else none
      |none=>none
    else some (s.put o.dst .undef,⟨[],[]⟩)
  |none=>none
def tC(P:Program)(mt:Hf)(call:rA)(ops:Array Oper):List Oper->St->Option (St×List Tr)
  | [],s=>some (s,[])
  |o::r,s=>
    match step1 P mt call ops o s with
    |some (s',t)=>(match tC P mt call ops r s' with|some (f,ts)=>some (f,t::ts)|none=>none)
    |none=>none
def zB:List Oper->List Nat->List Nat
  | [],acc=>acc
  |o::r,acc=>zB r (acc++[o.after.toList.foldl (fun b e=>if Region.binds .any e then b ||| (2 ^ e.on ||| acc.getD e.on 0)else b) 0])
def yL(ops:Array Oper)(x:Oper×Tr)(y:Oper×Tr):Bool:=
  x.1.apart ops y.1&&zT x.2.wr y.2.rd&&zT y.2.wr x.2.rd&&zT x.2.wr y.2.wr
def uS(ops:Array Oper)(ts:List Tr):Bool:=
  let l:=ops.toList
  let f:=zB l []
  let xs:=l.zip ts
  Region.noSelect ops&&
  (l.zipIdx.all fun(o,i)=>o.after.toList.all fun e=> !Region.binds .any e||decide (e.on<i))&&
  (xs.zipIdx.all fun(y,i)=>xs.zipIdx.all fun(x,j)=> !decide (j<i)||(f.getD i 0).testBit j||yL ops x y)
inductive Ex where
  |normal
  |exit (id:Nat)
  |ret
def wk(body:St->Option (Ex×St)):Nat->St->Option (Ex×St)
  |0,_=>none
  |n+1,s=>
    match body s with
    |some (.normal,s')=>wk body n s'
    |r=>r
inductive Pl where
  |reg (t:Nat)
  |cell (id off:Nat)
  deriving Inhabited
def uw(s:St):Pl->Option RV
  | .reg t=>s.rJ t
  | .cell id off=>(match s.boxes id with|some (.var cs)=>cs[off]? |_=>none)
def uE(s:St)(v:RV):Pl->St
  | .reg t=>{ s with rJ:=fun x=>if x=t then some v else s.rJ x }
  | .cell id off=>(match s.boxes id with|some (.var cs)=>{ s with boxes:=fun i=>if i=id then some (.var (cs.set off v))else s.boxes i }|_=>s)
def fixRV(id:Nat)(ps:List PD):RV->RV
  | .ptr i off=>if i=id then .cptr (ps.drop off)else .ptr i off
  |v=>v
inductive wR where
  |dE (rJ boxes:List Nat)
  |own (reg id:Nat) (e:TypeId)
  |freeze (reg:Nat)
  |frz (p:Pl)
  |ownp (p:Pl) (id:Nat) (e:TypeId)
  |mv (p:Pl) (new:Nat)
  |fixv (id:Nat)
  |bump (reg:Nat)
  |bumpp (p:Pl)
  |ownn (p:Pl) (id:Nat) (e e2:TypeId)
  |lend (id:Nat) (i:Option Nat) (new:Nat)
  |give (id:Nat)
  |frzn (p:Pl)
  |opn (id r o:Nat)
  |cls (id:Nat)
  deriving Inhabited
def assoc{α:Type}:List (Nat×α)->Nat->Option α
  | [],_=>none
  |(k,a)::r,t=>if t=k then some a else assoc r t
def gets{α:Type}(f:Nat->Option α):List Nat->Option (List (Nat×α))
  | []=>some []
  |t::r=>match f t,gets f r with
    |some v,some l=>some ((t,v)::l)
    |_,_=>none
def sg(f:Nat)(id cur:Nat):Nat:=if id<f then min cur 1 else 0
def w6(s:St)(ess:List (List PD)):Option Nat->Option (Nat×List PD)
  |none=>(match ess[ess.length-1]? with|some es=>some (ess.length-1,es)|none=>none)
  | some t => (match s.rJ t with
    |some (.d (.int _ n))=>if 0<=n then(match ess[n.toNat]? with|some es=>some (n.toNat,es)|none=>none)else none
    |_=>none)
def sw(P:Program)(q:Nat)(s:St):wR->Option St
  | .dE rs bs=>
    match gets s.rJ rs,gets s.boxes bs with
    |some l,some m=>
      if(List.range q).all bs.contains then
        let ρ:Ren:=⟨fun id=>if bs.contains id then some id else none,sD s.boxes (sg q)⟩
        some { rJ:=assoc (l.map fun x=>(x.1,tl ρ x.2)),boxes:=assoc (m.map fun x=>(x.1,ui ρ (sg q x.1) x.2)) }
      else none
    |_,_=>none
  | .own t id e=>
    match s.rJ t,s.boxes id,szT P e with
    |some .pY,none,some (_+1)=>some { rJ:=fun x=>if x=t then some (.ref id 0)else s.rJ x,boxes:=fun i=>if i=id then some (.arr 0 e [])else s.boxes i }
    |some (.ref _ _),_,_=>some s
    |_,_,_=>none
  | .freeze t=>
    match s.rJ t with
    |some (.ref id ver)=>
      (match s.boxes id with
       |some (.arr f _ es)=>if ver=f then some { rJ:=fun x=>if x=t then some (.d (.lst es))else s.rJ x,boxes:=fun i=>if i=id then some .dead else s.boxes i }else none
       |_=>none)
    |_=>none
  | .frz p=>
    match uw s p with
    |some .pY=>some (uE s (.d (.lst [])) p)
    |some (.d _)=>some s
    |some (.ref id ver)=>
      (match s.boxes id with
       |some (.arr f _ es)=>if ver=f then some (uE { s with boxes:=fun i=>if i=id then some .dead else s.boxes i } (.d (.lst es)) p)else none
       |_=>none)
    |_=>none
  | .ownp p id e=>
    match uw s p,s.boxes id,szT P e with
    |some .pY,none,some (_+1)=>some (uE { s with boxes:=fun i=>if i=id then some (.arr 0 e [])else s.boxes i } (.ref id 0) p)
    |some (.ref _ _),_,_=>some s
    |_,_,_=>none
  | .mv p new=>
    match uw s p with
    |some .pY=>some s
    |some (.ref id _)=>
      if id=new then some s else if q<=id∧q<=new then
        let ρ:Ren:=⟨fun i=>if i=id then some new else if i=new then none else some i,sD s.boxes fun _ c=>c⟩
        some { rJ:=fun t=>(s.rJ t).map (tl ρ),boxes:=fun i=>if i=new then(s.boxes id).map (ui ρ fun c=>c)else if i=id then none else(s.boxes i).map (ui ρ fun c=>c) }
      else none
    |_=>none
  | .fixv id=>
    match s.boxes id with
    |some (.var cs)=>
      (match wU cs with
       |some ps=>if ps.all PD.one=true then some { rJ:=fun t=>(s.rJ t).map (fixRV id ps),boxes:=fun i=>if i=id then some .dead else s.boxes i }else none
       |none=>none)
    |_=>none
  | .bump t=>
    match s.rJ t with
    |some (.ref id ver)=>
      (match s.boxes id with
       |some (.arr f e es)=>if ver=f then some { rJ:=fun x=>if x=t then some (.ref id (ver+1))else s.rJ x,boxes:=fun i=>if i=id then some (.arr (ver+1) e es)else s.boxes i }else none
       |_=>none)
    |_=>none
  | .bumpp p=>
    match uw s p with
    |some (.ref id ver)=>
      (match s.boxes id with
       |some (.arr f e es)=>if ver=f then some (uE { s with boxes:=fun i=>if i=id then some (.arr (ver+1) e es)else s.boxes i } (.ref id (ver+1)) p)else none
       |_=>none)
    |_=>none
  | .ownn p id e e2=>
    match uw s p,s.boxes id,szT P e,szT P e2 with
    |some .pY,none,some 1,some (_+1)=>some (uE { s with boxes:=fun i=>if i=id then some (.nest 0 e e2 [] none)else s.boxes i } (.ref id 0) p)
    |some (.ref _ _),_,_,_=>some s
    |_,_,_,_=>none
  | .lend id i new=>
    match s.boxes id,s.boxes new with
    |some (.nest ver e e2 ess none),none=>
      (match w6 s ess i with
       |some (j,es)=>some { s with boxes:=fun k=>if k=new then some (.arr 0 e2 es)else if k=id then some (.nest ver e e2 ess (some (j,.ref new 0)))else s.boxes k }
       |none=>none)
    |_,_=>none
  | .give id=>
    match s.boxes id with
    |some (.nest ver e e2 ess (some (i,.ref k B)))=>
      (match s.boxes k with
       |some (.arr g C es)=>if B=g∧C=e2∧k≠id then some { s with boxes:=fun j=>if j=k then some .dead else if j=id then some (.nest ver e e2 (ess.set i es) none)else s.boxes j }else none
       |_=>none)
    |some (.nest _ _ _ _ (some _))=>none
    |_=>some s
  | .frzn p=>
    match uw s p with
    |some (.ref id ver)=>
      (match s.boxes id with
       |some (.nest f _ _ ess none)=>if ver=f then some (uE { s with boxes:=fun i=>if i=id then some .dead else s.boxes i } (.d (.lst (ess.map .lst))) p)else none
       |_=>none)
    |some .pY=>some (uE s (.d (.lst [])) p)
    |some (.d _)=>some s
    |_=>none
  | .opn id r o=>
    match s.boxes id,s.rJ r with
    |some (.arr ver e es),some (.d (.int _ n))=>
      (match es[n.toNat]? with
       | some x => (match x.cells[o]? with
         |some c=>some { s with boxes:=fun i=>if i=id then some (.hole ver e es n.toNat o (.d c))else s.boxes i }
         |none=>none)
       |none=>none)
    |_,_=>none
  | .cls id=>
    match s.boxes id with
    |some (.hole ver e es i o (.d c))=>if c.one=true then some { s with boxes:=fun k=>if k=id then some (.arr ver e (es.set i ((es.getD i default).put o [c])))else s.boxes k }else none
    |some (.hole ver e es i o (.ref k B))=>
      (match s.boxes k with
       |some (.arr g _ u)=>if B=g∧k≠id then some { s with boxes:=fun j=>if j=k then some .dead else if j=id then some (.arr ver e (es.set i ((es.getD i default).put o [.lst u])))else s.boxes j }else none
       |_=>none)
    |some (.hole _ _ _ _ _ _)=>none
    |_=>some s
def ry(P:Program)(f:Nat)(s:St):List wR->Option St
  | []=>some s
  |g::r=>match sw P f s g with|some s'=>ry P f s' r|none=>none
structure Hints where
  at_:FuncId->Nat->Nat->List wR
  mt:FuncId->Nat->Bool
  by_:FuncId->Nat->Bool
  own:FuncId->Nat->Bool
def Hints.hf(H:Hints)(f:FuncId):Hf:=⟨H.mt f,H.by_⟩
def yi(P:Program)(H:Hints)(f:FuncId)(g:Nat)(call:rA)(id:Nat)(ops:Array Oper)(j:Bool)(s:St):Option St:=
  match ry P g s (H.at_ f g id)with
  |none=>none
  |some s0=>
    match tC P (H.hf f) call ops ops.toList s0 with
    |some (s',ts)=>if j then(if uS ops ts then some s' else none)else some s'
    |none=>none
def rO(P:Program)(H:Hints)(f:FuncId)(g:Nat)(call:rA)(fuel:Nat):Code->St->Option (Ex×St)
  | .skip,s=>some (.normal,s)
  | .region id ops k,s=>(match yi P H f g call id ops k s with|some s'=>some (.normal,s')|none=>none)
  | .seq a b,s=>
    match rO P H f g call fuel a s with
    |some (.normal,s')=>rO P H f g call fuel b s'
    |r=>r
  | .cond c a b,s=>
    match s.opd c with
    |some (.d (.bool t))=>if t then rO P H f g call fuel a s else rO P H f g call fuel b s
    |_=>none
  | .block id b,s=>
    match rO P H f g call fuel b s with
    |some (.exit j,s')=>if j=id then some (.normal,s')else some (.exit j,s')
    |r=>r
  | .loop b,s=>wk (rO P H f g call fuel b) fuel s
  | .exit id,s=>some (.exit id,s)
  | .ret,s=>some (.ret,s)
  | .scope b,s=>rO P H f g call fuel b s
  | .label _,s=>some (.normal,s)
  |_,_=>none
def outV(own:Bool)(v:RV):M (RV×Ups):=
  match v with
  | .agg cs=>if own then M.pure (v,[])else M.bind (vI cs) fun(ps,u)=>M.pure (.d (.agg ps),u)
  | .pY=>M.pure (.d (.lst []),[])
  | .ref _ _| .view _ _ _ _=>if own then M.pure (v,[])else M.bind (uB v) fun(p,u)=>M.pure (.d p,u)
  | .tup _=>M.fail
  |v=>M.pure (v,[])
def resV(P:Program)(s:St):ResultVar->M RV
  | .tmp t=>(match s.rJ t with|some v=>M.pure v|none=>M.fail)
  | .cell t ty=>M.bind (match s.rJ t with|some a=>uf P ty a|none=>M.fail) fun(v,_)=>M.pure v
def resD(P:Program)(own:Nat->Bool)(s:St):Nat->List ResultVar->M (List RV×Ups)
  |_,[]=>M.pure ([],[])
  |i,x::r=>M.bind (resV P s x) fun v=>M.bind (outV (own i) v) fun(y,u)=>M.bind (resD P own s (i+1) r) fun(f,us)=>M.pure (y::f,u++us)
def one(l:List RV):RV:=match l with| [v]=>v|l=>.tup l
def yg(nt:Nat):Code->Bool
  | .region _ ops _=>ops.all fun o=>match o.dst with|some d=>decide (d<nt)|none=>true
  | .seq a b| .cond _ a b=>yg nt a&&yg nt b
  | .block _ b| .loop b| .scope b=>yg nt b
  |_=>true
def finish(P:Program)(own:Nat->Bool)(fn:Func)(g:Nat)(s:St):Option (RV×List Box):=
  match resD P own s 0 fn.results.toList s.boxes with
  |some ((rs,u),_,true)=>
    let j:=yr s.boxes u
    match M.bind (uz 64 [] (List.range g++rs.flatMap Af)) (fun ids=>M.bind (wM ids) fun f=>M.pure (ids,f)) j with
    |some ((ids,f),_,true)=>
      if ids.take g=List.range g∧nodup ids=true then
        let ρ:Ren:=⟨idxOf ids,sD j (sg g)⟩
        some (tl ρ (one rs),(ids.zip f).map fun x=>ui ρ (sg g x.1) x.2)
      else none
    |_=>none
  |_=>none
def sj(P:Program)(H:Hints)(ext:FuncId->Option rA):Nat->rA
  |0,_,_,_=>none
  |n+1,f,args,bs=>
    match ext f with
    |some g=>g f args bs
    |none=>
      match P.funcs[f]? with
      |some fn=>
        match fn.body with
        |some c=>
          if yg fn.ntmps c && (fn.name != "runtime.NumGoroutine") && decide (args.length ≤ fn.ntmps) && bs.all (fun b => verB b == 0) then
            match rO P H f bs.length (sj P H ext n) n c { rJ:=look args,boxes:=look bs }with
            |some (.normal,s)=>finish P (H.own f) fn bs.length s
            |some (.ret,s)=>finish P (H.own f) fn bs.length s
            |_=>none
          else none
        |none=>none
      |none=>none
end Go.Dw
