
import Derived.Test.YtmmgjlgoggielaaGreatDwCore

namespace Go.Dw
structure St where
  p8:Nat->Option RV
  boxes:qh
def St.put(s:St)(dst:Option Nat)(v:RV):St:=
  match dst with
  |some d=>{ s with p8:=fun t=>if t=d then some v else s.p8 t }
  |none=>s
def St.ups(s:St):Ups->St
  | []=>s
  |(id,b)::r=>St.ups { s with boxes:=fun i=>if i=id then some b else s.boxes i } r
def St.opd(s:St):Operand->Option RV
  | .tmp t=>s.p8 t
  | .const v=>some (qC v)
  | .func f=>some (.d (.raw (.func (.func f) #[] #[])))
  | .global _=>none
abbrev qa:=FuncId->List RV->List Box->Option (RV×List Box)
def ids1:RV->List Nat
  | .ref id _| .ptr id _| .elt id _ _ _| .view id _ _ _| .fview id _ _=>[id]
  |_=>[]
def idsV:RV->List Nat
  | .agg cs| .tup cs| .clo _ cs=>cs.flatMap ids1
  | .ifc _ c=>ids1 c
  |v=>ids1 v
def idsB:Box->List Nat
  | .var cs=>cs.flatMap idsV
  | .nest _ _ _ _ (some (_,rv))=>idsV rv
  |_=>[]
structure Ren where
  pos:Nat->Option Nat
  ver:Nat->Nat->Option Nat
def we(ρ:Ren):RV->RV
  | .ref id ver=>(match ρ.pos id,ρ.ver id ver with|some k,some v=>.ref k v|_,_=>.junk)
  | .view id ver lo hi=>(match ρ.pos id,ρ.ver id ver with|some k,some v=>.view k v lo hi|_,_=>.junk)
  | .elt id ver i o=>(match ρ.pos id,ρ.ver id ver with|some k,some v=>.elt k v i o|_,_=>.junk)
  | .ptr id off=>(match ρ.pos id with|some k=>.ptr k off|none=>.junk)
  | .agg _=>.junk
  | .tup _=>.junk
  | .clo _ _=>.junk
  | .ifc _ _=>.junk
  | .fview id ver hi=>(match ρ.pos id,ρ.ver id ver with|some k,some v=>.fview k v hi|_,_=>.junk)
  |v=>v
def rR(ρ:Ren):RV->RV
  | .agg cs=>.agg (cs.map (we ρ))
  | .tup cs=>.tup (cs.map (we ρ))
  | .clo f cs=>.clo f (cs.map (we ρ))
  | .ifc t c=>.ifc t (we ρ c)
  |v=>we ρ v
def sP(ρ:Ren)(f:Nat->Nat):Box->Box
  | .arr ver e es=>.arr (f ver) e es
  | .var cs=>.var (cs.map (rR ρ))
  | .dead=>.dead
  | .map kt vt es=>.map kt vt es
  | .nest ver e e2 ess h=>.nest (f ver) e e2 ess (match h with|some (i,rv)=>some (i,rR ρ rv)|none=>none)
  | .mapn kt vt e2 es h=>.mapn kt vt e2 es h
def qJ(b:qh)(f:Nat->Nat->Nat)(id ver:Nat):Option Nat:=
  match b id with
  |some (.arr cur _ _)=>if ver=cur then some (f id cur)else none
  |some (.nest cur _ _ _ _)=>if ver=cur then some (f id cur)else none
  |_=>none
def idxOf(l:List Nat)(id:Nat):Option Nat:=
  match l with
  | []=>none
  |a::r=>if id=a then some 0 else(idxOf r id).map (· +1)
def ta:Nat->List Nat->List Nat->M (List Nat)
  |0,_,_=>M.fail
  |_+1,done,[]=>M.pure done
  |n+1,done,i::todo=>if done.contains i then ta n done todo else M.bind (M.get i) fun b=>ta n (done++[i]) (todo++idsB b)
def vE:List Nat->M (List Box)
  | []=>M.pure []
  |i::r=>M.bind (M.get i) fun b=>M.bind (vE r) fun l=>M.pure (b::l)
def se:List Nat->M Unit
  | []=>M.pure ()
  |i::r=>M.bind (M.qc i) fun _=>se r
def look{α:Type}:List α->Nat->Option α
  | [],_=>none
  |a::_,0=>some a
  |_::r,n+1=>look r n
def argD(byref:Bool)(v:RV):M (RV×Ups):=
  match v with
  | .ptr _ _| .elt _ _ _ _| .clo _ _| .ifc _ _=>M.pure (v,[])
  | .ref _ _| .view _ _ _ _=>if byref then M.pure (v,[])else M.bind (tv v) fun(p,u)=>M.pure (.d p,u)
  | .mA=>if byref then M.pure (v,[])else M.bind (tv v) fun(p,u)=>M.pR v.sized (.d p,u)
  | .agg _=>if byref then M.pure (v,[])else M.bind (tv v) fun(p,u)=>M.pR v.sized (.d p,u)
  |v=>M.bind (tv v) fun(p,u)=>M.pR v.sized (.d p,u)
def vz(by_:Nat->Bool):Nat->List RV->M (List RV×Ups)
  |_,[]=>M.pure ([],[])
  |i,v::r=>M.bind (argD (by_ i) v) fun(x,u)=>M.bind (vz by_ (i+1) r) fun(l,us)=>M.pure (x::l,u++us)
def nodup:List Nat->Bool
  | []=>true
  |a::r=> !r.contains a&&nodup r
def disj(a b:List Nat):Bool:=a.all fun x=> !b.contains x
def verB:Box->Nat
  | .arr v _ _=>v
  | .nest v _ _ _ _=>v
  |_=>0
def xc(b:qh):Ups->qh
  | []=>b
  |(id,x)::r=>xc (fun i=>if i=id then some x else b i) r
structure Hf where
  lit:Nat->Bool
  by_:FuncId->Nat->Bool
def offOf(bxs:List Box)(k:Nat):Nat:=match look bxs k with|some b=>verB b|none=>0
def sD(base n:Nat):List Nat:=(List.range n).map (base+ ·)
def tV(ids:List Nat)(bxs:List Box):Ren:=⟨idxOf ids,qJ (fun i=>(idxOf ids i).bind (look bxs)) fun _ _=>0⟩
def xz(all:List Nat)(bxs bs':List Box):Ren:=⟨look all,qJ (look bs') fun k cur=>offOf bxs k+cur⟩
def w6(all:List Nat)(bxs bs':List Box):Ups:=all.zip (bs'.zipIdx.map fun x=>sP (xz all bxs bs') (fun cur=>offOf bxs x.2+cur) x.1)
def flatP:PD->Bool
  | .bool _| .int _ _| .str _=>true
  |_=>false
def xQ:RV->Bool
  | .d (.agg cs)=>cs.all flatP
  | .d p=>flatP p
  | .err _=>true
  |_=>false
def flatV:RV->Bool
  | .tup cs=>cs.all xQ
  |v=>xQ v
def zt(u0:Ups)(ids:List Nat)(bs':List Box)(r:RV)(u:Ups):Ups:=if ids.isEmpty&&(bs'.isEmpty&&flatV r)then []else u0++u
def sl(by_:FuncId->Nat->Bool)(call:qa)(f:FuncId)(base:Nat)(args:List RV):M (RV×Ups):=
  M.bind (vz (by_ f) 0 args) fun(as,u0)=>
  M.bind (ta 64 [] (as.flatMap idsV)) fun ids=>
  M.bind (vE ids) fun bxs=>
  match call f (as.map (rR (tV ids bxs))) (bxs.map (sP (tV ids bxs) fun _=>0))with
  |some (r,bs')=>
    if ids.length<=bs'.length∧nodup ids=true∧disj ids (u0.map (·.1))=true then
      M.bind (se (sD base (bs'.length-ids.length))) fun _=>
      M.pure (rR (xz (ids++sD base (bs'.length-ids.length)) bxs bs') r,zt u0 ids bs' r (w6 (ids++sD base (bs'.length-ids.length)) bxs bs'))
    else M.fail
  |none=>M.fail
def sa(s:St):List Operand->Option (List RV)
  | []=>some []
  |x::r=>match s.opd x,sa s r with
    |some v,some l=>some (v::l)
    |_,_=>none
def rr(s:St):List (Nat×Operand)->Option (List (Nat×RV))
  | []=>some []
  |(i,x)::r=>match s.opd x,rr s r with
    |some v,some l=>some ((i,v)::l)
    |_,_=>none
def qL(s:St):Option Operand->Option (Option RV)
  |none=>some none
  |some x=>match s.opd x with|some v=>some (some v)|none=>none
def notD:RV->Option (PD×Bool)
  | .d (.bool b)=>some (.bool !b,true)
  |_=>none
def negD:RV->Option (PD×Bool)
  | .d (.int k n)=>some (.int k (k.wrap (0-n)),true)
  |_=>none
def convD(P:Program)(src dst:TypeId)(x:RV):Option (PD×Bool):=
  match P.underlying src,P.underlying dst,x with
  |some (.int _),some (.int k),.d (.int _ n)=>some (.int k (k.wrap n),true)
  |some .string,some .string,.d (.str s)=>some (.str s,true)
  |_,_,_=>none
def u8s:List PD->Option (List Int)
  | []=>some []
  | .int .u8 n::r=>(match u8s r with|some l=>some (n::l)|none=>none)
  |_=>none
def strU(l:List Int):List UInt8:=l.map fun n=>UInt8.ofNat n.toNat
theorem u8s_map(l:List Int):u8s (l.map (.int .u8))=some l:=by
  induction l with
  |nil=>rfl
  |cons n l ih=>simp only [List.map_cons,u8s,ih]
theorem zf:∀{es:List PD}{ns:List Int},u8s es=some ns->es=ns.map (.int .u8)
  | [],ns,h=>by cases h;rfl
  |p::r,ns,h=>by
    cases p<;>first|(cases h;done)|skip
    rename_i k n
    cases k<;>first|(cases h;done)|skip
    simp only [u8s]at h
    rcases hr:u8s r with _|l
    · rw [hr]at h;cases h
    · rw [hr]at h
      cases h
      rw [zf hr]
      rfl
def vd(P:Program)(id:Nat)(src dst:TypeId)(x:RV):M (RV×Ups):=
  match P.underlying src,P.underlying dst,x with
  |some .string,some (.slice e),.d (.str s)=>
    (match P.underlying e with
     |some (.int .u8)=>M.bind (M.qc id) fun _=>M.pR (decide (szT P e=some 1∧s.length<=140737488355328)) (.ref id 0,[(id,.arr 0 e (s.map fun b=>.int .u8 b.toNat))])
     |_=>M.fail)
  |some (.slice e),some .string,.ref i ver=>
    (match P.underlying e with
     |some (.int .u8)=>M.bind (M.get i) fun
       | .arr ver' _ es=>if ver=ver' then(match u8s es with|some ns=>qI (.d (.str (strU ns)))|none=>M.fail)else M.fail
       |_=>M.fail
     |_=>M.fail)
  |some (.slice e),some .string,.d (.lst es)=>
    (match P.underlying e with
     |some (.int .u8)=>(match u8s es with|some ns=>qI (.d (.str (strU ns)))|none=>M.fail)
     |_=>M.fail)
  |_,_,_=>ve (convD P src dst x)
def ifcD(P:Program)(t:TypeId)(x:RV):M (RV×Ups):=
  match P.underlying t,x with
  |some (.interface _),_=>M.fail
  |some _,.d p=>qI (.ifc t (.d p))
  |some _,.ptr id off=>qI (.ifc t (.ptr id off))
  |_,_=>M.fail
def uH(P:Program)(x:RV)(asserted:TypeId)(ok:Bool):M (RV×Ups):=
  match P.underlying asserted,x with
  |some (.interface _),_=>M.fail
  |some _,.ifc t c=>if t=asserted then qI (if ok then .tup [c,.d (.bool true)]else c)else M.fail
  |_,_=>M.fail
def yP(P:Program)(t:TypeId)(name:String):Option (FuncId×Option TypeId):=
  match P.info? t with
  |some i=>
    (match i.methods.find? (·.name == name), P.underlying t with
     |some m,some u=>
       (match m.path.toList, m.func, u with
        | [],some (f,true),.pointer _=>some (f,none)
        | [],some (f,false),.pointer e=>some (f,some e)
        |_,_,_=>none)
     |_,_=>none)
  |none=>none
def uS(P:Program)(mt:Hf)(call:qa)(base:Nat)(x:RV)(name:String)(as:List RV):M (RV×Ups):=
  match x with
  | .ifc t c=>
    (match yP P t name with
     |some (f,none)=>sl mt.by_ call f base (c::as)
     |some (f,some e)=>M.bind (tC P e c) fun(v,_)=>sl mt.by_ call f base (v::as)
     |none=>M.fail)
  |_=>M.fail
def qg(P:Program)(mt:Hf)(call:qa)(s:St)(o:Oper):M (RV×Ups):=
  match o.op with
  | .move x| .assign x=>(match s.opd x with|some v=>qI v|none=>M.fail)
  | .pick c a b=>
    (match s.opd c with
     |some (.d (.bool t))=>(match(if t then s.opd a else s.opd b)with|some v=>qI v|none=>M.fail)
     |_=>M.fail)
  | .alloc t=>wm P (o.dst.getD 0*16) t
  | .box _ x=>(match s.opd x with|some v=>boxD (o.dst.getD 0*16) v|none=>M.fail)
  | .build t parts=>(match rr s parts.toList with|some l=>wq P t l|none=>M.fail)
  | .buildSlice t len parts=>(match rr s parts.toList with|some l=>rH P (mt.lit (o.dst.getD 0)) (o.dst.getD 0*16) t len l|none=>M.fail)
  | .load t a=>(match s.opd a with|some v=>tC P t v|none=>M.fail)
  | .store t a x=>(match s.opd a,s.opd x with|some v,some u=>uq P t v u|_,_=>M.fail)
  | .nilCheck x=>(match s.opd x with|some v=>wj 0 v|none=>M.fail)
  | .binOp op t x y _=>(match s.opd x,s.opd y with|some a,some b=>ve (binX P op t x y a b)|_,_=>M.fail)
  | .unOp .not _ x=>(match s.opd x with|some a=>ve (notD a)|none=>M.fail)
  | .unOp .neg _ x=>(match s.opd x with|some a=>ve (negD a)|none=>M.fail)
  | .convert src dst x=>(match s.opd x with|some a=>vd P (o.dst.getD 0*16) src dst a|none=>M.fail)
  | .makeSlice t l c=>(match s.opd l,s.opd c with|some a,some b=>rn P (o.dst.getD 0*16) t a b|_,_=>M.fail)
  | .makeMap t r=>(match qL s r with|some none=>if mt.lit (o.dst.getD 0)then tO P (o.dst.getD 0*16) t else tp P (o.dst.getD 0*16) t|_=>M.fail)
  | .mapEntry t x k=>(match s.opd x,s.opd k with|some v,some n=>sZ P (o.dst.getD 0*16) t v n|_,_=>M.fail)
  | .entryStore _ x n y=>(match s.opd x,s.opd n,s.opd y with|some v,some q,some u=>rJ v q u|_,_,_=>M.fail)
  | .lookup t x k ok=>(match s.opd x,s.opd k with|some v,some n=>tF P t v n ok|_,_=>M.fail)
  | .mapUpdate t x k y=>(match s.opd x,s.opd k,s.opd y with|some v,some n,some u=>uX P t v n u|_,_,_=>M.fail)
  | .slice t x lo hi mx=>
    (match s.opd x, qL s lo, qL s hi, qL s mx with
     |some v,some l,some h,some m=>if mt.lit (o.dst.getD 0)then xX P t v l h m else rp P (o.dst.getD 0*16) t v l h m
     |_,_,_,_=>M.fail)
  | .fieldAddr t x f=>(match s.opd x with|some v=>sg P t v f|none=>M.fail)
  | .field t x f=>(match s.opd x with|some v=>wu P t v f|none=>M.fail)
  | .indexAddr t x i=>(match s.opd x,s.opd i with|some v,some n=>qN P t v n|_,_=>M.fail)
  | .index t x i=>(match s.opd x,s.opd i with|some v,some n=>vF P t v n|_,_=>M.fail)
  | .makeFunc fn first cs=>(match sa s cs.toList with|some l=>(match fn,first.toList with| .func g,[]=>qI (.clo g l)| .func g,[x]=>(match s.opd x,l with|some (.d (.agg [])),[]=>qI (.d (.raw (.func (.func g) #[.agg #[]] #[])))|_,_=>M.fail)|_,_=>M.fail)|none=>M.fail)
  | .makeInterface t x=>(match s.opd x with|some v=>ifcD P t v|none=>M.fail)
  | .typeAssert x _ t ok=>(match s.opd x with|some v=>uH P v t ok|none=>M.fail)
  | .extract x i=>
    (match s.opd x with
     |some (.tup vs)=>(match vs[i]? with|some v=>qI v|none=>M.fail)
     |_=>M.fail)
  | .call c=>
    (match c.callee, sa s c.args.toList with
     | .builtin .len,some [x]=>(if c.argTypes.size=1 then xu P (c.argTypes.getD 0 0) x else M.fail)
     | .builtin .cap,some [x]=>(if c.argTypes.size=1 then capD P (c.argTypes.getD 0 0) x else M.fail)
     | .builtin .append,some [a,x]=>(if c.argTypes.size=2 then(if c.argTypes.getD 0 0=c.argTypes.getD 1 0 then rm P (o.dst.getD 0*16) (c.argTypes.getD 0 0) (c.argTypes.getD 1 0) a x else xI P (o.dst.getD 0*16) (c.argTypes.getD 0 0) (c.argTypes.getD 1 0) a x)else M.fail)
     | .builtin .clear,some [a]=>(if c.argTypes.size=1 then uh P (c.argTypes.getD 0 0) a else M.fail)
     | .builtin .min,some l=>minD l
     | .builtin .max,some l=>maxD l
     | .invoke rc name,some as=>(match s.opd rc with|some v=>uS P mt call (o.dst.getD 0*16) v name as|none=>M.fail)
     | .value f,some as=>
       (match s.opd f with
        |some (.d (.raw (.func (.func g) ⟨[]⟩ ⟨[]⟩)))=>sl mt.by_ call g (o.dst.getD 0*16) as
        |some (.d (.raw (.func (.func g) ⟨[.agg ⟨[]⟩]⟩ ⟨[]⟩)))=>sl mt.by_ call g (o.dst.getD 0*16) (.d (.agg [])::as)
        |some (.clo g cs)=>sl mt.by_ call g (o.dst.getD 0*16) (as++cs)
        |_=>M.fail)
     |_,_=>M.fail)
  |_=>M.fail
def pO(ops:Array Oper)(s:St)(o:Oper):Option Bool:=
  match o.guard with
  |none=>some true
  |some (j,want)=>
    match(ops[j]?).bind (·.dst)with
    |none=>none
    |some t=>
      match s.p8 t with
      |some (.d (.bool b))=>some (b==want)
      |some .undef=>some false
      |_=>none
structure Tr where
  rd:List Nat
  wr:List Nat
def sc(P:Program)(mt:Hf)(call:qa)(ops:Array Oper)(o:Oper)(s:St):Option (St×Tr):=
  match pO ops s o with
  |some w=>
    if w then
      match qg P mt call s o s.boxes with
      |some ((v,u),rd,c)=>if c then some ((s.ups u).put o.dst v,⟨rd,u.map (·.1)⟩)else none
      |none=>none
    else some (s.put o.dst .undef,⟨[],[]⟩)
  |none=>none
def rE(P:Program)(mt:Hf)(call:qa)(ops:Array Oper):List Oper->St->Option (St×List Tr)
  | [],s=>some (s,[])
  |o::r,s=>
    match sc P mt call ops o s with
    |some (s',t)=>(match rE P mt call ops r s' with|some (s'',ts)=>some (s'',t::ts)|none=>none)
    |none=>none
def ym:List Oper->List Nat->List Nat
  | [],acc=>acc
  |o::r,acc=>ym r (acc++[o.after.toList.foldl (fun b e=>if Region.binds .any e then b ||| (2 ^ e.on ||| acc.getD e.on 0)else b) 0])
def xA(ops:Array Oper)(x:Oper×Tr)(y:Oper×Tr):Bool:=
  x.1.apart ops y.1&&disj x.2.wr y.2.rd&&disj y.2.wr x.2.rd&&disj x.2.wr y.2.wr
def w5(ops:Array Oper)(ts:List Tr):Bool:=
  let l:=ops.toList
  let an:=ym l []
  let xs:=l.zip ts
  Region.noSelect ops&&
  (l.zipIdx.all fun(o,i)=>o.after.toList.all fun e=> !Region.binds .any e||decide (e.on<i))&&
  (xs.zipIdx.all fun(y,i)=>xs.zipIdx.all fun(x,j)=> !decide (j<i)||(an.getD i 0).testBit j||xA ops x y)
inductive Ex where
  |normal
  |exit (id:Nat)
  |ret
def uK(body:St->Option (Ex×St)):Nat->St->Option (Ex×St)
  |0,_=>none
  |n+1,s=>
    match body s with
    |some (.normal,s')=>uK body n s'
    |r=>r
inductive Pl where
  |reg (t:Nat)
  |cell (id off:Nat)
  deriving Inhabited
def sJ(s:St):Pl->Option RV
  | .reg t=>s.p8 t
  | .cell id off=>(match s.boxes id with|some (.var cs)=>cs[off]? |_=>none)
def sW(s:St)(v:RV):Pl->St
  | .reg t=>{ s with p8:=fun x=>if x=t then some v else s.p8 x }
  | .cell id off=>(match s.boxes id with|some (.var cs)=>{ s with boxes:=fun i=>if i=id then some (.var (cs.set off v))else s.boxes i }|_=>s)
def fixRV(id:Nat)(ps:List PD):RV->RV
  | .ptr i off=>if i=id then .cptr (ps.drop off)else .ptr i off
  |v=>v
inductive wM where
  |nZ (p8 boxes:List Nat)
  |own (reg id:Nat) (e:TypeId)
  |freeze (reg:Nat)
  |frz (p:Pl)
  |ownp (p:Pl) (id:Nat) (e:TypeId)
  |mv (p:Pl) (new:Nat)
  |fixv (id:Nat)
  |bump (reg:Nat)
  |bumpp (p:Pl)
  |ownn (p:Pl) (id:Nat) (e e2:TypeId)
  |lend (id:Nat) (i:Option Nat) (new:Nat)
  |wx (id:Nat)
  |frzn (p:Pl)
  |frzm (id:Nat)
  deriving Inhabited
def assoc{α:Type}:List (Nat×α)->Nat->Option α
  | [],_=>none
  |(k,a)::r,t=>if t=k then some a else assoc r t
def gets{α:Type}(f:Nat->Option α):List Nat->Option (List (Nat×α))
  | []=>some []
  |t::r=>match f t,gets f r with
    |some v,some l=>some ((t,v)::l)
    |_,_=>none
def qt(nb:Nat)(id cur:Nat):Nat:=if id<nb then min cur 1 else 0
def vG(s:St)(ess:List (List PD)):Option Nat->Option (Nat×List PD)
  |none=>(match ess[ess.length-1]? with|some es=>some (ess.length-1,es)|none=>none)
  | some t => (match s.p8 t with
    |some (.d (.int _ n))=>if 0<=n then(match ess[n.toNat]? with|some es=>some (n.toNat,es)|none=>none)else none
    |_=>none)
def qT(P:Program)(nb:Nat)(s:St):wM->Option St
  | .nZ rs bs=>
    match gets s.p8 rs,gets s.boxes bs with
    |some l,some m=>
      if(List.range nb).all bs.contains then
        let ρ:Ren:=⟨fun id=>if bs.contains id then some id else none,qJ s.boxes (qt nb)⟩
        some { p8:=assoc (l.map fun x=>(x.1,rR ρ x.2)),boxes:=assoc (m.map fun x=>(x.1,sP ρ (qt nb x.1) x.2)) }
      else none
    |_,_=>none
  | .own t id e=>
    match s.p8 t,s.boxes id,szT P e with
    |some .mA,none,some (_+1)=>some { p8:=fun x=>if x=t then some (.ref id 0)else s.p8 x,boxes:=fun i=>if i=id then some (.arr 0 e [])else s.boxes i }
    |some (.ref _ _),_,_=>some s
    |_,_,_=>none
  | .freeze t=>
    match s.p8 t with
    |some (.ref id ver)=>
      (match s.boxes id with
       |some (.arr ver' _ es)=>if ver=ver' then some { p8:=fun x=>if x=t then some (.d (.lst es))else s.p8 x,boxes:=fun i=>if i=id then some .dead else s.boxes i }else none
       |_=>none)
    |_=>none
  | .frz p=>
    match sJ s p with
    |some .mA=>some (sW s (.d (.lst [])) p)
    |some (.d _)=>some s
    |some (.ref id ver)=>
      (match s.boxes id with
       |some (.arr ver' _ es)=>if ver=ver' then some (sW { s with boxes:=fun i=>if i=id then some .dead else s.boxes i } (.d (.lst es)) p)else none
       |_=>none)
    |_=>none
  | .ownp p id e=>
    match sJ s p,s.boxes id,szT P e with
    |some .mA,none,some (_+1)=>some (sW { s with boxes:=fun i=>if i=id then some (.arr 0 e [])else s.boxes i } (.ref id 0) p)
    |some (.ref _ _),_,_=>some s
    |_,_,_=>none
  | .mv p new=>
    match sJ s p with
    |some .mA=>some s
    |some (.ref id _)=>
      if id=new then some s else if nb<=id∧nb<=new then
        let ρ:Ren:=⟨fun i=>if i=id then some new else if i=new then none else some i,qJ s.boxes fun _ c=>c⟩
        some { p8:=fun t=>(s.p8 t).map (rR ρ),boxes:=fun i=>if i=new then(s.boxes id).map (sP ρ fun c=>c)else if i=id then none else(s.boxes i).map (sP ρ fun c=>c) }
      else none
    |_=>none
  | .fixv id=>
    match s.boxes id with
    |some (.var cs)=>
      (match vw cs with
       |some ps=>if ps.all PD.one=true then some { p8:=fun t=>(s.p8 t).map (fixRV id ps),boxes:=fun i=>if i=id then some .dead else s.boxes i }else none
       |none=>none)
    |_=>none
  | .bump t=>
    match s.p8 t with
    |some (.ref id ver)=>
      (match s.boxes id with
       |some (.arr ver' e es)=>if ver=ver' then some { p8:=fun x=>if x=t then some (.ref id (ver+1))else s.p8 x,boxes:=fun i=>if i=id then some (.arr (ver+1) e es)else s.boxes i }else none
       |_=>none)
    |_=>none
  | .bumpp p=>
    match sJ s p with
    |some (.ref id ver)=>
      (match s.boxes id with
       |some (.arr ver' e es)=>if ver=ver' then some (sW { s with boxes:=fun i=>if i=id then some (.arr (ver+1) e es)else s.boxes i } (.ref id (ver+1)) p)else none
       |_=>none)
    |_=>none
  | .ownn p id e e2=>
    match sJ s p,s.boxes id,szT P e,szT P e2 with
    |some .mA,none,some 1,some (_+1)=>some (sW { s with boxes:=fun i=>if i=id then some (.nest 0 e e2 [] none)else s.boxes i } (.ref id 0) p)
    |some (.ref _ _),_,_,_=>some s
    |_,_,_,_=>none
  | .lend id i new=>
    match s.boxes id,s.boxes new with
    |some (.nest ver e e2 ess none),none=>
      (match vG s ess i with
       |some (j,es)=>some { s with boxes:=fun k=>if k=new then some (.arr 0 e2 es)else if k=id then some (.nest ver e e2 ess (some (j,.ref new 0)))else s.boxes k }
       |none=>none)
    |_,_=>none
  | .wx id=>
    match s.boxes id with
    |some (.nest ver e e2 ess (some (i,.ref k kv)))=>
      (match s.boxes k with
       |some (.arr kv' e' es)=>if kv=kv'∧e'=e2∧k≠id then some { s with boxes:=fun j=>if j=k then some .dead else if j=id then some (.nest ver e e2 (ess.set i es) none)else s.boxes j }else none
       |_=>none)
    |some (.nest _ _ _ _ (some _))=>none
    |_=>some s
  | .frzn p=>
    match sJ s p with
    |some (.ref id ver)=>
      (match s.boxes id with
       |some (.nest ver' _ _ ess none)=>if ver=ver' then some (sW { s with boxes:=fun i=>if i=id then some .dead else s.boxes i } (.d (.lst (ess.map .lst))) p)else none
       |_=>none)
    |some .mA=>some (sW s (.d (.lst [])) p)
    |some (.d _)=>some s
    |_=>none
  | .frzm id=>
    match s.boxes id with
    |some (.mapn kt vt _ es none)=>some { s with boxes:=fun i=>if i=id then some (.map kt vt (ya es))else s.boxes i }
    |some (.mapn _ _ _ _ (some _))=>none
    |_=>some s
def qb(P:Program)(nb:Nat)(s:St):List wM->Option St
  | []=>some s
  |g::r=>match qT P nb s g with|some s'=>qb P nb s' r|none=>none
structure Hints where
  at_:FuncId->Nat->Nat->List wM
  mt:FuncId->Nat->Bool
  by_:FuncId->Nat->Bool
  own:FuncId->Nat->Bool
def Hints.hf(H:Hints)(f:FuncId):Hf:=⟨H.mt f,H.by_⟩
def wW(P:Program)(H:Hints)(f:FuncId)(nb:Nat)(call:qa)(id:Nat)(ops:Array Oper)(dr:Bool)(s:St):Option St:=
  match qb P nb s (H.at_ f nb id)with
  |none=>none
  |some s0=>
    match rE P (H.hf f) call ops ops.toList s0 with
    |some (s',ts)=>if dr then(if w5 ops ts then some s' else none)else some s'
    |none=>none
def qd(P:Program)(H:Hints)(f:FuncId)(nb:Nat)(call:qa)(fuel:Nat):Code->St->Option (Ex×St)
  | .skip,s=>some (.normal,s)
  | .region id ops dr,s=>(match wW P H f nb call id ops dr s with|some s'=>some (.normal,s')|none=>none)
  | .seq a b,s=>
    match qd P H f nb call fuel a s with
    |some (.normal,s')=>qd P H f nb call fuel b s'
    |r=>r
  | .cond c a b,s=>
    match s.opd c with
    |some (.d (.bool t))=>if t then qd P H f nb call fuel a s else qd P H f nb call fuel b s
    |_=>none
  | .block id b,s=>
    match qd P H f nb call fuel b s with
    |some (.exit id',s')=>if id'=id then some (.normal,s')else some (.exit id',s')
    |r=>r
  | .loop b,s=>uK (qd P H f nb call fuel b) fuel s
  | .exit id,s=>some (.exit id,s)
  | .ret,s=>some (.ret,s)
  | .scope b,s=>qd P H f nb call fuel b s
  | .label _,s=>some (.normal,s)
  |_,_=>none
def outV(own:Bool)(v:RV):M (RV×Ups):=
  match v with
  | .agg cs=>if own then M.pure (v,[])else M.bind (ud cs) fun(ps,u)=>M.pure (.d (.agg ps),u)
  | .mA=>M.pure (.d (.lst []),[])
  | .ref _ _| .view _ _ _ _=>if own then M.pure (v,[])else M.bind (tv v) fun(p,u)=>M.pure (.d p,u)
  | .tup _=>M.fail
  |v=>M.pure (v,[])
def resV(P:Program)(s:St):ResultVar->M RV
  | .tmp t=>(match s.p8 t with|some v=>M.pure v|none=>M.fail)
  | .cell t ty=>M.bind (match s.p8 t with|some a=>tC P ty a|none=>M.fail) fun(v,_)=>M.pure v
def resD(P:Program)(own:Nat->Bool)(s:St):Nat->List ResultVar->M (List RV×Ups)
  |_,[]=>M.pure ([],[])
  |i,x::r=>M.bind (resV P s x) fun v=>M.bind (outV (own i) v) fun(y,u)=>M.bind (resD P own s (i+1) r) fun(ys,us)=>M.pure (y::ys,u++us)
def one(l:List RV):RV:=match l with| [v]=>v|l=>.tup l
def xJ(nt:Nat):Code->Bool
  | .region _ ops _=>ops.all fun o=>match o.dst with|some d=>decide (d<nt)|none=>true
  | .seq a b| .cond _ a b=>xJ nt a&&xJ nt b
  | .block _ b| .loop b| .scope b=>xJ nt b
  |_=>true
def finish(P:Program)(own:Nat->Bool)(fn:Func)(nb:Nat)(s:St):Option (RV×List Box):=
  match resD P own s 0 fn.results.toList s.boxes with
  |some ((rs,u),_,true)=>
    let b1:=xc s.boxes u
    match M.bind (ta 64 [] (List.range nb++rs.flatMap idsV)) (fun ids=>M.bind (vE ids) fun bxs=>M.pure (ids,bxs)) b1 with
    |some ((ids,bxs),_,true)=>
      if ids.take nb=List.range nb∧nodup ids=true then
        let ρ:Ren:=⟨idxOf ids,qJ b1 (qt nb)⟩
        some (rR ρ (one rs),(ids.zip bxs).map fun x=>sP ρ (qt nb x.1) x.2)
      else none
    |_=>none
  |_=>none
def qM(P:Program)(H:Hints)(ext:FuncId->Option qa):Nat->qa
  |0,_,_,_=>none
  |n+1,f,args,bs=>
    match ext f with
    |some g=>g f args bs
    |none=>
      match P.funcs[f]? with
      |some fn=>
        match fn.body with
        |some c=>
          if xJ fn.ntmps c && (fn.name != "runtime.NumGoroutine") && decide (args.length ≤ fn.ntmps) && bs.all (fun b => verB b == 0) then
            match qd P H f bs.length (qM P H ext n) n c { p8:=look args,boxes:=look bs }with
            |some (.normal,s)=>finish P (H.own f) fn bs.length s
            |some (.ret,s)=>finish P (H.own f) fn bs.length s
            |_=>none
          else none
        |none=>none
      |none=>none
end Go.Dw
