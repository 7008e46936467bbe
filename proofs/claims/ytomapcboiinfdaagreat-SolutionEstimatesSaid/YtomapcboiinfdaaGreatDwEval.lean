
import Derived.Test.YtomapcboiinfdaaGreatDwCore
set_option linter.unusedVariables false
set_option linter.unusedSimpArgs false

namespace Go.Dw
structure St where
  nd:Nat->Option RV
  boxes:nn
def St.put(s:St)(dst:Option Nat)(v:RV):St:=
  match dst with
  |some d=>{ s with nd:=fun t=>if t=d then some v else s.nd t }
  |none=>s
def St.ups(s:St):Ups->St
  | []=>s
  |(id,b)::r=>St.ups { s with boxes:=fun i=>if i=id then some b else s.boxes i } r
def St.opd(s:St):Operand->Option RV
  | .tmp t=>s.nd t
  | .const v=>some (nC v)
  | .func f=>some (.d (.raw (.func (.func f) #[] #[])))
  | .global _=>none
abbrev ng:=FuncId->List RV->List Box->Option (RV×List Box)
def ids1:RV->List Nat
  | .ref id _| .ptr id _| .elt id _ _ _| .view id _ _ _| .fview id _ _=>[id]
  |_=>[]
def idsV:RV->List Nat
  | .agg cs| .tup cs| .clo _ cs=>cs.flatMap ids1
  | .ifc _ c=>ids1 c
  | .plit cs=>cs.flatMap ids1
  | .pcp c=>ids1 c
  |v=>ids1 v
def idsB:Box->List Nat
  | .var cs=>cs.flatMap idsV
  | .nest _ _ _ _ (some (_,rv))=>idsV rv
  | .hole _ _ _ _ _ rv=>idsV rv
  |_=>[]
structure Ren where
  pos:Nat->Option Nat
  ver:Nat->Nat->Option Nat
def qz(ρ:Ren):RV->RV
  | .ref id ver=>(match ρ.pos id,ρ.ver id ver with|some k,some v=>.ref k v|_,_=>.junk)
  | .view id ver lo hi=>(match ρ.pos id,ρ.ver id ver with|some k,some v=>.view k v lo hi|_,_=>.junk)
  | .elt id ver i o=>(match ρ.pos id,ρ.ver id ver with|some k,some v=>.elt k v i o|_,_=>.junk)
  | .ptr id off=>(match ρ.pos id with|some k=>.ptr k off|none=>.junk)
  | .agg _=>.junk
  | .tup _=>.junk
  | .clo _ _=>.junk
  | .ifc _ _=>.junk
  | .plit _=>.junk
  | .pcp _=>.junk
  | .fview id ver hi=>(match ρ.pos id,ρ.ver id ver with|some k,some v=>.fview k v hi|_,_=>.junk)
  |v=>v
def ov(ρ:Ren):RV->RV
  | .agg cs=>.agg (cs.map (qz ρ))
  | .tup cs=>.tup (cs.map (qz ρ))
  | .clo f cs=>.clo f (cs.map (qz ρ))
  | .ifc t c=>.ifc t (qz ρ c)
  | .plit cs=>.plit (cs.map (qz ρ))
  | .pcp c=>.pcp (qz ρ c)
  |v=>qz ρ v
def o0(ρ:Ren)(f:Nat->Nat):Box->Box
  | .arr ver e es=>.arr (f ver) e es
  | .var cs=>.var (cs.map (ov ρ))
  | .dead=>.dead
  | .map a b es=>.map a b es
  | .nest ver e e2 ess h=>.nest (f ver) e e2 ess (match h with|some (i,rv)=>some (i,ov ρ rv)|none=>none)
  | .hole ver e es i o rv=>.hole (f ver) e es i o (ov ρ rv)
def nN(b:nn)(f:Nat->Nat->Nat)(id ver:Nat):Option Nat:=
  match b id with
  |some (.arr cur _ _)=>if ver=cur then some (f id cur)else none
  |some (.nest cur _ _ _ _)=>if ver=cur then some (f id cur)else none
  |some (.hole cur _ _ _ _ _)=>if ver=cur then some (f id cur)else none
  |_=>none
def idxOf(l:List Nat)(id:Nat):Option Nat:=
  match l with
  | []=>none
  |a::r=>if id=a then some 0 else(idxOf r id).map (· +1)
def pq:Nat->List Nat->List Nat->M (List Nat)
  |0,_,_=>M.fail
  |_+1,done,[]=>M.pure done
  |n+1,done,i::todo=>if done.contains i then pq n done todo else M.bind (M.get i) fun b=>pq n (done++[i]) (todo++idsB b)
def rV:List Nat->M (List Box)
  | []=>M.pure []
  |i::r=>M.bind (M.get i) fun b=>M.bind (rV r) fun l=>M.pure (b::l)
def pb:List Nat->M Unit
  | []=>M.pure ()
  |i::r=>M.bind (M.nu i) fun _=>pb r
def look{α:Type}:List α->Nat->Option α
  | [],_=>none
  |a::_,0=>some a
  |_::r,n+1=>look r n
def argD(a:Bool)(v:RV):M (RV×Ups):=
  match v with
  | .ptr _ _| .elt _ _ _ _| .clo _ _| .ifc _ _=>M.pure (v,[])
  | .ref _ _| .view _ _ _ _=>if a then M.pure (v,[])else M.bind (pf v) fun(p,u)=>M.pure (.d p,u)
  | .cI=>if a then M.pure (v,[])else M.bind (pf v) fun(p,u)=>M.mS v.sized (.d p,u)
  | .agg _=>if a then M.pure (v,[])else M.bind (pf v) fun(p,u)=>M.mS v.sized (.d p,u)
  |v=>M.bind (pf v) fun(p,u)=>M.mS v.sized (.d p,u)
def sP(by_:Nat->Bool):Nat->List RV->M (List RV×Ups)
  |_,[]=>M.pure ([],[])
  |i,v::r=>M.bind (argD (by_ i) v) fun(x,u)=>M.bind (sP by_ (i+1) r) fun(l,us)=>M.pure (x::l,u++us)
def nodup:List Nat->Bool
  | []=>true
  |a::r=> !r.contains a&&nodup r
def disj(a b:List Nat):Bool:=a.all fun x=> !b.contains x
def verB:Box->Nat
  | .arr v _ _=>v
  | .nest v _ _ _ _=>v
  | .hole v _ _ _ _ _=>v
  |_=>0
def rD(b:nn):Ups->nn
  | []=>b
  |(id,x)::r=>rD (fun i=>if i=id then some x else b i) r
structure Hf where
  lit:Nat->Bool
  by_:FuncId->Nat->Bool
def offOf(a:List Box)(k:Nat):Nat:=match look a k with|some b=>verB b|none=>0
def qe(base n:Nat):List Nat:=(List.range n).map (base+ ·)
def rG(ids:List Nat)(a:List Box):Ren:=⟨idxOf ids,nN (fun i=>(idxOf ids i).bind (look a)) fun _ _=>0⟩
def vW(all:List Nat)(b a:List Box):Ren:=⟨look all,nN (look a) fun k cur=>offOf b k+cur⟩
def vV(all:List Nat)(b a:List Box):Ups:=all.zip (a.zipIdx.map fun x=>o0 (vW all b a) (fun cur=>offOf b x.2+cur) x.1)
def flatP:PD->Bool
  | .bool _| .int _ _| .str _=>true
  |_=>false
def uL:RV->Bool
  | .d (.agg cs)=>cs.all flatP
  | .d p=>flatP p
  | .err _=>true
  |_=>false
def flatV:RV->Bool
  | .tup cs=>cs.all uL
  |v=>uL v
def xq(b:Ups)(ids:List Nat)(a:List Box)(r:RV)(u:Ups):Ups:=if ids.isEmpty&&(a.isEmpty&&flatV r)then []else b++u
def pj(by_:FuncId->Nat->Bool)(call:ng)(f:FuncId)(base:Nat)(args:List RV):M (RV×Ups):=
  M.bind (sP (by_ f) 0 args) fun(as,c)=>
  M.bind (pq 64 [] (as.flatMap idsV)) fun ids=>
  M.bind (rV ids) fun b=>
  match call f (as.map (ov (rG ids b))) (b.map (o0 (rG ids b) fun _=>0))with
  |some (r,a)=>
    if ids.length<=a.length∧nodup ids=true∧disj ids (c.map (·.1))=true then
      M.bind (pb (qe base (a.length-ids.length))) fun _=>
      M.pure (ov (vW (ids++qe base (a.length-ids.length)) b a) r,xq c ids a r (vV (ids++qe base (a.length-ids.length)) b a))
    else M.fail
  |none=>M.fail
def oR(s:St):List Operand->Option (List RV)
  | []=>some []
  |x::r=>match s.opd x,oR s r with
    |some v,some l=>some (v::l)
    |_,_=>none
def oe(s:St):List (Nat×Operand)->Option (List (Nat×RV))
  | []=>some []
  |(i,x)::r=>match s.opd x,oe s r with
    |some v,some l=>some ((i,v)::l)
    |_,_=>none
def nY(s:St):Option Operand->Option (Option RV)
  |none=>some none
  |some x=>match s.opd x with|some v=>some (some v)|none=>none
def notD:RV->Option (PD×Bool)
  | .d (.bool b)=>some (.bool !b,true)
  |_=>none
def negD:RV->Option (PD×Bool)
  | .d (.int k n)=>some (.int k (k.wrap (0-n)),true)
  |_=>none
def convD(P:Program)(src dst:TypeId)(x:RV):Option (PD×Bool):=
  match P.underlying src,P.underlying dst,x with
  |some (.int _),some (.int k),.d (.int _ n)=>some (.int k (k.wrap n),true)
  |some .string,some .string,.d (.str s)=>some (.str s,true)
  |_,_,_=>none
def u8s:List PD->Option (List Int)
  | []=>some []
  | .int .u8 n::r=>(match u8s r with|some l=>some (n::l)|none=>none)
  |_=>none
def strU(l:List Int):List UInt8:=l.map fun n=>UInt8.ofNat n.toNat
theorem u8s_map(l:List Int):u8s (l.map (.int .u8))=some l:=by
  induction l with
  |nil=>rfl
  |cons n l a=>simp only [List.map_cons,u8s,a]
theorem we:∀{es:List PD}{a:List Int},u8s es=some a->es=a.map (.int .u8)
  | [],a,h=>by cases h;rfl
  |p::r,a,h=>by
    cases p<;>first|(cases h;done)|skip
    rename_i k n
    cases k<;>first|(cases h;done)|skip
    simp only [u8s]at h
    rcases b:u8s r with _|l
    · rw [b]at h;cases h
    · rw [b]at h
      cases h
      rw [we b]
      rfl
def rF(P:Program)(id:Nat)(src dst:TypeId)(x:RV):M (RV×Ups):=
  match P.underlying src,P.underlying dst,x with
  |some .string,some (.slice e),.d (.str s)=>
    (match P.underlying e with
     |some (.int .u8)=>M.bind (M.nu id) fun _=>M.mS (decide (szT P e=some 1∧s.length<=140737488355328)) (.ref id 0,[(id,.arr 0 e (s.map fun b=>.int .u8 b.toNat))])
     |_=>M.fail)
  |some (.slice e),some .string,.ref i ver=>
    (match P.underlying e with
     |some (.int .u8)=>M.bind (M.get i) fun
       | .arr a _ es=>if ver=a then(match u8s es with|some c=>nG (.d (.str (strU c)))|none=>M.fail)else M.fail
       |_=>M.fail
     |_=>M.fail)
  |some (.slice e),some .string,.d (.lst es)=>
    (match P.underlying e with
     |some (.int .u8)=>(match u8s es with|some c=>nG (.d (.str (strU c)))|none=>M.fail)
     |_=>M.fail)
  |_,_,_=>rJ (convD P src dst x)
def ifcD(P:Program)(t:TypeId)(x:RV):M (RV×Ups):=
  match P.underlying t,x with
  |some (.interface _),_=>M.fail
  |some _,.d p=>nG (.ifc t (.d p))
  |some _,.ptr id off=>nG (.ifc t (.ptr id off))
  |_,_=>M.fail
def qW(P:Program)(x:RV)(asserted:TypeId)(ok:Bool):M (RV×Ups):=
  match P.underlying asserted,x with
  |some (.interface _),_=>M.fail
  |some _,.ifc t c=>if t=asserted then nG (if ok then .tup [c,.d (.bool true)]else c)else M.fail
  |_,_=>M.fail
def vQ(P:Program)(t:TypeId)(name:String):Option (FuncId×Option TypeId):=
  match P.info? t with
  |some i=>
    (match i.methods.find? (·.name == name), P.underlying t with
     |some m,some u=>
       (match m.path.toList, m.func, u with
        | [],some (f,true),.pointer _=>some (f,none)
        | [],some (f,false),.pointer e=>some (f,some e)
        |_,_,_=>none)
     |_,_=>none)
  |none=>none
def rm(P:Program)(mt:Hf)(call:ng)(base:Nat)(x:RV)(name:String)(as:List RV):M (RV×Ups):=
  match x with
  | .ifc t c=>
    (match vQ P t name with
     |some (f,none)=>pj mt.by_ call f base (c::as)
     |some (f,some e)=>M.bind (pN P e c) fun(v,_)=>pj mt.by_ call f base (v::as)
     |none=>M.fail)
  |_=>M.fail
def nw(P:Program)(mt:Hf)(call:ng)(s:St)(o:Oper):M (RV×Ups):=
  match o.op with
  | .move x| .assign x=>(match s.opd x with|some v=>nG v|none=>M.fail)
  | .pick c a b=>
    (match s.opd c with
     |some (.d (.bool t))=>(match(if t then s.opd a else s.opd b)with|some v=>nG v|none=>M.fail)
     |_=>M.fail)
  | .alloc t=>tc P (o.dst.getD 0*16) t
  | .box _ x=>(match s.opd x with|some v=>boxD (o.dst.getD 0*16) v|none=>M.fail)
  | .build t parts=>(match oe s parts.toList with|some l=>tf P t l|none=>M.fail)
  | .buildSlice t len parts=>(match oe s parts.toList with|some l=>oq P (mt.lit (o.dst.getD 0)) (o.dst.getD 0*16) t len l|none=>M.fail)
  | .load t a=>(match s.opd a with|some v=>pN P t v|none=>M.fail)
  | .store t a x=>(match s.opd a,s.opd x with|some v,some u=>rz P t v u|_,_=>M.fail)
  | .nilCheck x=>(match s.opd x with|some v=>sX 0 v|none=>M.fail)
  | .binOp op t x y _=>(match s.opd x,s.opd y with|some a,some b=>rJ (binX P op t x y a b)|_,_=>M.fail)
  | .unOp .not _ x=>(match s.opd x with|some a=>rJ (notD a)|none=>M.fail)
  | .unOp .neg _ x=>(match s.opd x with|some a=>rJ (negD a)|none=>M.fail)
  | .convert src dst x=>(match s.opd x with|some a=>rF P (o.dst.getD 0*16) src dst a|none=>M.fail)
  | .makeSlice t l c=>(match s.opd l,s.opd c with|some a,some b=>ou P (o.dst.getD 0*16) t a b|_,_=>M.fail)
  | .makeMap t r=>(match nY s r with|some none=>qd P (o.dst.getD 0*16) t|_=>M.fail)
  | .lookup t x k ok=>(match s.opd x,s.opd k with|some v,some n=>pQ P t v n ok|_,_=>M.fail)
  | .mapUpdate t x k y=>(match s.opd x,s.opd k,s.opd y with|some v,some n,some u=>rq P t v n u|_,_,_=>M.fail)
  | .slice t x lo hi e=>
    (match s.opd x, nY s lo, nY s hi, nY s e with
     |some v,some l,some h,some m=>if mt.lit (o.dst.getD 0)then v8 P t v l h m else oa P (o.dst.getD 0*16) t v l h m
     |_,_,_,_=>M.fail)
  | .fieldAddr t x f=>(match s.opd x with|some v=>oN P t v f|none=>M.fail)
  | .field t x f=>(match s.opd x with|some v=>tg P t v f|none=>M.fail)
  | .indexAddr t x i=>(match s.opd x,s.opd i with|some v,some n=>nX P t v n|_,_=>M.fail)
  | .index t x i=>(match s.opd x,s.opd i with|some v,some n=>rX P t v n|_,_=>M.fail)
  | .makeFunc fn first cs=>(match oR s cs.toList with|some l=>(match fn,first.toList with| .func g,[]=>nG (.clo g l)| .func g,[x]=>(match s.opd x,l with|some (.d (.agg [])),[]=>nG (.d (.raw (.func (.func g) #[.agg #[]] #[])))|_,_=>M.fail)|_,_=>M.fail)|none=>M.fail)
  | .makeInterface t x=>(match s.opd x with|some v=>ifcD P t v|none=>M.fail)
  | .typeAssert x _ t ok=>(match s.opd x with|some v=>qW P v t ok|none=>M.fail)
  | .extract x i=>
    (match s.opd x with
     |some (.tup vs)=>(match vs[i]? with|some v=>nG v|none=>M.fail)
     |_=>M.fail)
  | .call c=>
    (match c.callee, oR s c.args.toList with
     | .builtin .len,some [x]=>(if c.argTypes.size=1 then vJ P (c.argTypes.getD 0 0) x else M.fail)
     | .builtin .cap,some [x]=>(if c.argTypes.size=1 then capD P (c.argTypes.getD 0 0) x else M.fail)
     | .builtin .append,some [a,x]=>(if c.argTypes.size=2 then(if c.argTypes.getD 0 0=c.argTypes.getD 1 0 then oC P (o.dst.getD 0*16) (c.argTypes.getD 0 0) (c.argTypes.getD 1 0) a x else uD P (o.dst.getD 0*16) (c.argTypes.getD 0 0) (c.argTypes.getD 1 0) a x)else M.fail)
     | .builtin .copy,some [a,x]=>(if c.argTypes.size=2 then sQ P (c.argTypes.getD 0 0) a x else M.fail)
     | .builtin .clear,some [a]=>(if c.argTypes.size=1 then qv P (c.argTypes.getD 0 0) a else M.fail)
     | .builtin .min,some l=>minD l
     | .builtin .max,some l=>maxD l
     | .invoke rc name,some as=>(match s.opd rc with|some v=>rm P mt call (o.dst.getD 0*16) v name as|none=>M.fail)
     | .value f,some as=>
       (match s.opd f with
        |some (.d (.raw (.func (.func g) ⟨[]⟩ ⟨[]⟩)))=>pj mt.by_ call g (o.dst.getD 0*16) as
        |some (.d (.raw (.func (.func g) ⟨[.agg ⟨[]⟩]⟩ ⟨[]⟩)))=>pj mt.by_ call g (o.dst.getD 0*16) (.d (.agg [])::as)
        |some (.clo g cs)=>pj mt.by_ call g (o.dst.getD 0*16) (as++cs)
        |_=>M.fail)
     |_,_=>M.fail)
  |_=>M.fail
def mR(ops:Array Oper)(s:St)(o:Oper):Option Bool:=
  match o.guard with
  |none=>some true
  |some (j,want)=>
    match(ops[j]?).bind (·.dst)with
    |none=>none
    |some t=>
      match s.nd t with
      |some (.d (.bool b))=>some (b==want)
      |some .undef=>some false
      |_=>none
structure Tr where
  rd:List Nat
  wr:List Nat
def oH(P:Program)(mt:Hf)(call:ng)(ops:Array Oper)(o:Oper)(s:St):Option (St×Tr):=
  match mR ops s o with
  |some w=>
    if w then
      match nw P mt call s o s.boxes with
      |some ((v,u),rd,c)=>if c then some ((s.ups u).put o.dst v,⟨rd,u.map (·.1)⟩)else none
      |none=>none
    else some (s.put o.dst .undef,⟨[],[]⟩)
  |none=>none
def oo(P:Program)(mt:Hf)(call:ng)(ops:Array Oper):List Oper->St->Option (St×List Tr)
  | [],s=>some (s,[])
  |o::r,s=>
    match oH P mt call ops o s with
    |some (s',t)=>(match oo P mt call ops r s' with|some (a,ts)=>some (a,t::ts)|none=>none)
    |none=>none
def uZ:List Oper->List Nat->List Nat
  | [],acc=>acc
  |o::r,acc=>uZ r (acc++[o.after.toList.foldl (fun b e=>if Region.binds .any e then b ||| (2 ^ e.on ||| acc.getD e.on 0)else b) 0])
def uo(ops:Array Oper)(x:Oper×Tr)(y:Oper×Tr):Bool:=
  x.1.apart ops y.1&&disj x.2.wr y.2.rd&&disj y.2.wr x.2.rd&&disj x.2.wr y.2.wr
def tU(ops:Array Oper)(ts:List Tr):Bool:=
  let l:=ops.toList
  let a:=uZ l []
  let xs:=l.zip ts
  Region.noSelect ops&&
  (l.zipIdx.all fun(o,i)=>o.after.toList.all fun e=> !Region.binds .any e||decide (e.on<i))&&
  (xs.zipIdx.all fun(y,i)=>xs.zipIdx.all fun(x,j)=> !decide (j<i)||(a.getD i 0).testBit j||uo ops x y)
inductive Ex where
  |normal
  |exit (id:Nat)
  |ret
def qZ(body:St->Option (Ex×St)):Nat->St->Option (Ex×St)
  |0,_=>none
  |n+1,s=>
    match body s with
    |some (.normal,s')=>qZ body n s'
    |r=>r
inductive Pl where
  |reg (t:Nat)
  |cell (id off:Nat)
  deriving Inhabited
def pe(s:St):Pl->Option RV
  | .reg t=>s.nd t
  | .cell id off=>(match s.boxes id with|some (.var cs)=>cs[off]? |_=>none)
def pG(s:St)(v:RV):Pl->St
  | .reg t=>{ s with nd:=fun x=>if x=t then some v else s.nd x }
  | .cell id off=>(match s.boxes id with|some (.var cs)=>{ s with boxes:=fun i=>if i=id then some (.var (cs.set off v))else s.boxes i }|_=>s)
def fixRV(id:Nat)(a:List PD):RV->RV
  | .ptr i off=>if i=id then .cptr (a.drop off)else .ptr i off
  |v=>v
inductive uC where
  |dw (nd boxes:List Nat)
  |own (reg id:Nat) (e:TypeId)
  |freeze (reg:Nat)
  |frz (p:Pl)
  |ownp (p:Pl) (id:Nat) (e:TypeId)
  |mv (p:Pl) (new:Nat)
  |fixv (id:Nat)
  |bump (reg:Nat)
  |bumpp (p:Pl)
  |ownn (p:Pl) (id:Nat) (e e2:TypeId)
  |lend (id:Nat) (i:Option Nat) (new:Nat)
  |give (id:Nat)
  |frzn (p:Pl)
  |opn (id r o:Nat)
  |cls (id:Nat)
  deriving Inhabited
def assoc{α:Type}:List (Nat×α)->Nat->Option α
  | [],_=>none
  |(k,a)::r,t=>if t=k then some a else assoc r t
def gets{α:Type}(f:Nat->Option α):List Nat->Option (List (Nat×α))
  | []=>some []
  |t::r=>match f t,gets f r with
    |some v,some l=>some ((t,v)::l)
    |_,_=>none
def nq(a:Nat)(id cur:Nat):Nat:=if id<a then min cur 1 else 0
def w6(s:St)(ess:List (List PD)):Option Nat->Option (Nat×List PD)
  |none=>(match ess[ess.length-1]? with|some es=>some (ess.length-1,es)|none=>none)
  | some t => (match s.nd t with
    |some (.d (.int _ n))=>if 0<=n then(match ess[n.toNat]? with|some es=>some (n.toNat,es)|none=>none)else none
    |_=>none)
def oi(P:Program)(f:Nat)(s:St):uC->Option St
  | .dw rs bs=>
    match gets s.nd rs,gets s.boxes bs with
    |some l,some m=>
      if(List.range f).all bs.contains then
        let ρ:Ren:=⟨fun id=>if bs.contains id then some id else none,nN s.boxes (nq f)⟩
        some { nd:=assoc (l.map fun x=>(x.1,ov ρ x.2)),boxes:=assoc (m.map fun x=>(x.1,o0 ρ (nq f x.1) x.2)) }
      else none
    |_,_=>none
  | .own t id e=>
    match s.nd t,s.boxes id,szT P e with
    |some .cI,none,some (_+1)=>some { nd:=fun x=>if x=t then some (.ref id 0)else s.nd x,boxes:=fun i=>if i=id then some (.arr 0 e [])else s.boxes i }
    |some (.ref _ _),_,_=>some s
    |_,_,_=>none
  | .freeze t=>
    match s.nd t with
    |some (.ref id ver)=>
      (match s.boxes id with
       |some (.arr a _ es)=>if ver=a then some { nd:=fun x=>if x=t then some (.d (.lst es))else s.nd x,boxes:=fun i=>if i=id then some .dead else s.boxes i }else none
       |_=>none)
    |_=>none
  | .frz p=>
    match pe s p with
    |some .cI=>some (pG s (.d (.lst [])) p)
    |some (.d _)=>some s
    |some (.ref id ver)=>
      (match s.boxes id with
       |some (.arr a _ es)=>if ver=a then some (pG { s with boxes:=fun i=>if i=id then some .dead else s.boxes i } (.d (.lst es)) p)else none
       |_=>none)
    |_=>none
  | .ownp p id e=>
    match pe s p,s.boxes id,szT P e with
    |some .cI,none,some (_+1)=>some (pG { s with boxes:=fun i=>if i=id then some (.arr 0 e [])else s.boxes i } (.ref id 0) p)
    |some (.ref _ _),_,_=>some s
    |_,_,_=>none
  | .mv p new=>
    match pe s p with
    |some .cI=>some s
    |some (.ref id _)=>
      if id=new then some s else if f<=id∧f<=new then
        let ρ:Ren:=⟨fun i=>if i=id then some new else if i=new then none else some i,nN s.boxes fun _ c=>c⟩
        some { nd:=fun t=>(s.nd t).map (ov ρ),boxes:=fun i=>if i=new then(s.boxes id).map (o0 ρ fun c=>c)else if i=id then none else(s.boxes i).map (o0 ρ fun c=>c) }
      else none
    |_=>none
  | .fixv id=>
    match s.boxes id with
    |some (.var cs)=>
      (match rO cs with
       |some u=>if u.all PD.one=true then some { nd:=fun t=>(s.nd t).map (fixRV id u),boxes:=fun i=>if i=id then some .dead else s.boxes i }else none
       |none=>none)
    |_=>none
  | .bump t=>
    match s.nd t with
    |some (.ref id ver)=>
      (match s.boxes id with
       |some (.arr a e es)=>if ver=a then some { nd:=fun x=>if x=t then some (.ref id (ver+1))else s.nd x,boxes:=fun i=>if i=id then some (.arr (ver+1) e es)else s.boxes i }else none
       |_=>none)
    |_=>none
  | .bumpp p=>
    match pe s p with
    |some (.ref id ver)=>
      (match s.boxes id with
       |some (.arr a e es)=>if ver=a then some (pG { s with boxes:=fun i=>if i=id then some (.arr (ver+1) e es)else s.boxes i } (.ref id (ver+1)) p)else none
       |_=>none)
    |_=>none
  | .ownn p id e e2=>
    match pe s p,s.boxes id,szT P e,szT P e2 with
    |some .cI,none,some 1,some (_+1)=>some (pG { s with boxes:=fun i=>if i=id then some (.nest 0 e e2 [] none)else s.boxes i } (.ref id 0) p)
    |some (.ref _ _),_,_,_=>some s
    |_,_,_,_=>none
  | .lend id i new=>
    match s.boxes id,s.boxes new with
    |some (.nest ver e e2 ess none),none=>
      (match w6 s ess i with
       |some (j,es)=>some { s with boxes:=fun k=>if k=new then some (.arr 0 e2 es)else if k=id then some (.nest ver e e2 ess (some (j,.ref new 0)))else s.boxes k }
       |none=>none)
    |_,_=>none
  | .give id=>
    match s.boxes id with
    |some (.nest ver e e2 ess (some (i,.ref k q)))=>
      (match s.boxes k with
       |some (.arr b v es)=>if q=b∧v=e2∧k≠id then some { s with boxes:=fun j=>if j=k then some .dead else if j=id then some (.nest ver e e2 (ess.set i es) none)else s.boxes j }else none
       |_=>none)
    |some (.nest _ _ _ _ (some _))=>none
    |_=>some s
  | .frzn p=>
    match pe s p with
    |some (.ref id ver)=>
      (match s.boxes id with
       |some (.nest a _ _ ess none)=>if ver=a then some (pG { s with boxes:=fun i=>if i=id then some .dead else s.boxes i } (.d (.lst (ess.map .lst))) p)else none
       |_=>none)
    |some .cI=>some (pG s (.d (.lst [])) p)
    |some (.d _)=>some s
    |_=>none
  | .opn id r o=>
    match s.boxes id,s.nd r with
    |some (.arr ver e es),some (.d (.int _ n))=>
      (match es[n.toNat]? with
       | some x => (match x.cells[o]? with
         |some c=>some { s with boxes:=fun i=>if i=id then some (.hole ver e es n.toNat o (.d c))else s.boxes i }
         |none=>none)
       |none=>none)
    |_,_=>none
  | .cls id=>
    match s.boxes id with
    |some (.hole ver e es i o (.d c))=>if c.one=true then some { s with boxes:=fun k=>if k=id then some (.arr ver e (es.set i ((es.getD i default).put o [c])))else s.boxes k }else none
    |some (.hole ver e es i o (.ref k q))=>
      (match s.boxes k with
       |some (.arr b _ g)=>if q=b∧k≠id then some { s with boxes:=fun j=>if j=k then some .dead else if j=id then some (.arr ver e (es.set i ((es.getD i default).put o [.lst g])))else s.boxes j }else none
       |_=>none)
    |some (.hole _ _ _ _ _ _)=>none
    |_=>some s
def nA(P:Program)(a:Nat)(s:St):List uC->Option St
  | []=>some s
  |g::r=>match oi P a s g with|some s'=>nA P a s' r|none=>none
structure Hints where
  at_:FuncId->Nat->Nat->List uC
  mt:FuncId->Nat->Bool
  by_:FuncId->Nat->Bool
  own:FuncId->Nat->Bool
def Hints.hf(H:Hints)(f:FuncId):Hf:=⟨H.mt f,H.by_⟩
def tQ(P:Program)(H:Hints)(f:FuncId)(a:Nat)(call:ng)(id:Nat)(ops:Array Oper)(b:Bool)(s:St):Option St:=
  match nA P a s (H.at_ f a id)with
  |none=>none
  |some s0=>
    match oo P (H.hf f) call ops ops.toList s0 with
    |some (s',ts)=>if b then(if tU ops ts then some s' else none)else some s'
    |none=>none
def nh(P:Program)(H:Hints)(f:FuncId)(e:Nat)(call:ng)(fuel:Nat):Code->St->Option (Ex×St)
  | .skip,s=>some (.normal,s)
  | .region id ops i,s=>(match tQ P H f e call id ops i s with|some s'=>some (.normal,s')|none=>none)
  | .seq a b,s=>
    match nh P H f e call fuel a s with
    |some (.normal,s')=>nh P H f e call fuel b s'
    |r=>r
  | .cond c a b,s=>
    match s.opd c with
    |some (.d (.bool t))=>if t then nh P H f e call fuel a s else nh P H f e call fuel b s
    |_=>none
  | .block id b,s=>
    match nh P H f e call fuel b s with
    |some (.exit g,s')=>if g=id then some (.normal,s')else some (.exit g,s')
    |r=>r
  | .loop b,s=>qZ (nh P H f e call fuel b) fuel s
  | .exit id,s=>some (.exit id,s)
  | .ret,s=>some (.ret,s)
  | .scope b,s=>nh P H f e call fuel b s
  | .label _,s=>some (.normal,s)
  |_,_=>none
def outV(own:Bool)(v:RV):M (RV×Ups):=
  match v with
  | .agg cs=>if own then M.pure (v,[])else M.bind (qp cs) fun(a,u)=>M.pure (.d (.agg a),u)
  | .cI=>M.pure (.d (.lst []),[])
  | .ref _ _| .view _ _ _ _=>if own then M.pure (v,[])else M.bind (pf v) fun(p,u)=>M.pure (.d p,u)
  | .tup _=>M.fail
  |v=>M.pure (v,[])
def resV(P:Program)(s:St):ResultVar->M RV
  | .tmp t=>(match s.nd t with|some v=>M.pure v|none=>M.fail)
  | .cell t ty=>M.bind (match s.nd t with|some a=>pN P ty a|none=>M.fail) fun(v,_)=>M.pure v
def resD(P:Program)(own:Nat->Bool)(s:St):Nat->List ResultVar->M (List RV×Ups)
  |_,[]=>M.pure ([],[])
  |i,x::r=>M.bind (resV P s x) fun v=>M.bind (outV (own i) v) fun(y,u)=>M.bind (resD P own s (i+1) r) fun(a,us)=>M.pure (y::a,u++us)
def one(l:List RV):RV:=match l with| [v]=>v|l=>.tup l
def uE(nt:Nat):Code->Bool
  | .region _ ops _=>ops.all fun o=>match o.dst with|some d=>decide (d<nt)|none=>true
  | .seq a b| .cond _ a b=>uE nt a&&uE nt b
  | .block _ b| .loop b| .scope b=>uE nt b
  |_=>true
def finish(P:Program)(own:Nat->Bool)(fn:Func)(b:Nat)(s:St):Option (RV×List Box):=
  match resD P own s 0 fn.results.toList s.boxes with
  |some ((rs,u),_,true)=>
    let c:=rD s.boxes u
    match M.bind (pq 64 [] (List.range b++rs.flatMap idsV)) (fun ids=>M.bind (rV ids) fun a=>M.pure (ids,a)) c with
    |some ((ids,a),_,true)=>
      if ids.take b=List.range b∧nodup ids=true then
        let ρ:Ren:=⟨idxOf ids,nN c (nq b)⟩
        some (ov ρ (one rs),(ids.zip a).map fun x=>o0 ρ (nq b x.1) x.2)
      else none
    |_=>none
  |_=>none
def nR(P:Program)(H:Hints)(ext:FuncId->Option ng):Nat->ng
  |0,_,_,_=>none
  |n+1,f,args,bs=>
    match ext f with
    |some g=>g f args bs
    |none=>
      match P.funcs[f]? with
      |some fn=>
        match fn.body with
        |some c=>
          if uE fn.ntmps c && (fn.name != "runtime.NumGoroutine") && decide (args.length ≤ fn.ntmps) && bs.all (fun b => verB b == 0) then
            match nh P H f bs.length (nR P H ext n) n c { nd:=look args,boxes:=look bs }with
            |some (.normal,s)=>finish P (H.own f) fn bs.length s
            |some (.ret,s)=>finish P (H.own f) fn bs.length s
            |_=>none
          else none
        |none=>none
      |none=>none
end Go.Dw
