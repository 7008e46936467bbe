
import Derived.Test.YthadlbjoiidkjaaGreatDoorDwCore

namespace Go.Dw
structure St where
  pU:Nat->Option RV
  boxes:p8
def St.put(s:St)(dst:Option Nat)(v:RV):St:=
  match dst with
  |some d=>{ s with pU:=fun t=>if t=d then some v else s.pU t }
  |none=>s
def St.ups(s:St):Ups->St
  | []=>s
  |(id,b)::r=>St.ups { s with boxes:=fun i=>if i=id then some b else s.boxes i } r
def St.opd(s:St):Operand->Option RV
  | .tmp t=>s.pU t
  | .const v=>some (qm v)
  | .func f=>some (.d (.raw (.func (.func f) #[] #[])))
  | .global _=>none
abbrev pT:=FuncId->List RV->List Box->Option (RV×List Box)
def ids1:RV->List Nat
  | .ref id _| .ptr id _| .elt id _ _ _| .view id _ _ _| .fview id _ _=>[id]
  |_=>[]
def idsV:RV->List Nat
  | .agg cs| .tup cs| .clo _ cs=>cs.flatMap ids1
  | .ifc _ c=>ids1 c
  |v=>ids1 v
def idsB:Box->List Nat
  | .var cs=>cs.flatMap idsV
  |_=>[]
structure Ren where
  pos:Nat->Option Nat
  ver:Nat->Nat->Option Nat
def vF(ρ:Ren):RV->RV
  | .ref id ver=>(match ρ.pos id,ρ.ver id ver with|some k,some v=>.ref k v|_,_=>.junk)
  | .view id ver lo hi=>(match ρ.pos id,ρ.ver id ver with|some k,some v=>.view k v lo hi|_,_=>.junk)
  | .elt id ver i o=>(match ρ.pos id,ρ.ver id ver with|some k,some v=>.elt k v i o|_,_=>.junk)
  | .ptr id off=>(match ρ.pos id with|some k=>.ptr k off|none=>.junk)
  | .agg _=>.junk
  | .tup _=>.junk
  | .clo _ _=>.junk
  | .ifc _ _=>.junk
  | .fview id ver hi=>(match ρ.pos id,ρ.ver id ver with|some k,some v=>.fview k v hi|_,_=>.junk)
  |v=>v
def rX(ρ:Ren):RV->RV
  | .agg cs=>.agg (cs.map (vF ρ))
  | .tup cs=>.tup (cs.map (vF ρ))
  | .clo f cs=>.clo f (cs.map (vF ρ))
  | .ifc t c=>.ifc t (vF ρ c)
  |v=>vF ρ v
def sj(ρ:Ren)(f:Nat->Nat):Box->Box
  | .arr ver e es=>.arr (f ver) e es
  | .var cs=>.var (cs.map (rX ρ))
  | .dead=>.dead
  | .map kt vt es=>.map kt vt es
def qt(b:p8)(f:Nat->Nat->Nat)(id ver:Nat):Option Nat:=
  match b id with
  |some (.arr cur _ _)=>if ver=cur then some (f id cur)else none
  |_=>none
def idxOf(l:List Nat)(id:Nat):Option Nat:=
  match l with
  | []=>none
  |a::r=>if id=a then some 0 else(idxOf r id).map (· +1)
def tj:Nat->List Nat->List Nat->M (List Nat)
  |0,_,_=>M.fail
  |_+1,done,[]=>M.pure done
  |n+1,done,i::todo=>if done.contains i then tj n done todo else M.bind (M.get i) fun b=>tj n (done++[i]) (todo++idsB b)
def vP:List Nat->M (List Box)
  | []=>M.pure []
  |i::r=>M.bind (M.get i) fun b=>M.bind (vP r) fun l=>M.pure (b::l)
def sh:List Nat->M Unit
  | []=>M.pure ()
  |i::r=>M.bind (M.qf i) fun _=>sh r
def look{α:Type}:List α->Nat->Option α
  | [],_=>none
  |a::_,0=>some a
  |_::r,n+1=>look r n
def argD(byref:Bool)(v:RV):M (RV×Ups):=
  match v with
  | .ptr _ _| .elt _ _ _ _| .clo _ _| .ifc _ _=>M.pure (v,[])
  | .ref _ _| .view _ _ _ _=>if byref then M.pure (v,[])else M.bind (sD v) fun(p,u)=>M.pure (.d p,u)
  | .mo=>if byref then M.pure (v,[])else M.bind (sD v) fun(p,u)=>M.pO v.sized (.d p,u)
  | .agg _=>if byref then M.pure (v,[])else M.bind (sD v) fun(p,u)=>M.pO v.sized (.d p,u)
  |v=>M.bind (sD v) fun(p,u)=>M.pO v.sized (.d p,u)
def vJ(by_:Nat->Bool):Nat->List RV->M (List RV×Ups)
  |_,[]=>M.pure ([],[])
  |i,v::r=>M.bind (argD (by_ i) v) fun(x,u)=>M.bind (vJ by_ (i+1) r) fun(l,us)=>M.pure (x::l,u++us)
def nodup:List Nat->Bool
  | []=>true
  |a::r=> !r.contains a&&nodup r
def disj(a b:List Nat):Bool:=a.all fun x=> !b.contains x
def verB:Box->Nat
  | .arr v _ _=>v
  |_=>0
def wQ(b:p8):Ups->p8
  | []=>b
  |(id,x)::r=>wQ (fun i=>if i=id then some x else b i) r
structure Hf where
  lit:Nat->Bool
  by_:FuncId->Nat->Bool
def offOf(bxs:List Box)(k:Nat):Nat:=match look bxs k with|some b=>verB b|none=>0
def tF(base n:Nat):List Nat:=(List.range n).map (base+ ·)
def uO(ids:List Nat)(bxs:List Box):Ren:=⟨idxOf ids,qt (fun i=>(idxOf ids i).bind (look bxs)) fun _ _=>0⟩
def yr(all:List Nat)(bxs bs':List Box):Ren:=⟨look all,qt (look bs') fun k cur=>offOf bxs k+cur⟩
def yq(all:List Nat)(bxs bs':List Box):Ups:=all.zip (bs'.zipIdx.map fun x=>sj (yr all bxs bs') (fun cur=>offOf bxs x.2+cur) x.1)
def flatP:PD->Bool
  | .bool _| .int _ _| .str _=>true
  |_=>false
def xy:RV->Bool
  | .d (.agg cs)=>cs.all flatP
  | .d p=>flatP p
  | .err _=>true
  |_=>false
def flatV:RV->Bool
  | .tup cs=>cs.all xy
  |v=>xy v
def zX(u0:Ups)(ids:List Nat)(bs':List Box)(r:RV)(u:Ups):Ups:=if ids.isEmpty&&(bs'.isEmpty&&flatV r)then []else u0++u
def sk(by_:FuncId->Nat->Bool)(call:pT)(f:FuncId)(base:Nat)(args:List RV):M (RV×Ups):=
  M.bind (vJ (by_ f) 0 args) fun(as,u0)=>
  M.bind (tj 64 [] (as.flatMap idsV)) fun ids=>
  M.bind (vP ids) fun bxs=>
  match call f (as.map (rX (uO ids bxs))) (bxs.map (sj (uO ids bxs) fun _=>0))with
  |some (r,bs')=>
    if ids.length<=bs'.length∧nodup ids=true∧disj ids (u0.map (·.1))=true then
      M.bind (sh (tF base (bs'.length-ids.length))) fun _=>
      M.pure (rX (yr (ids++tF base (bs'.length-ids.length)) bxs bs') r,zX u0 ids bs' r (yq (ids++tF base (bs'.length-ids.length)) bxs bs'))
    else M.fail
  |none=>M.fail
def rV(s:St):List Operand->Option (List RV)
  | []=>some []
  |x::r=>match s.opd x,rV s r with
    |some v,some l=>some (v::l)
    |_,_=>none
def qZ(s:St):List (Nat×Operand)->Option (List (Nat×RV))
  | []=>some []
  |(i,x)::r=>match s.opd x,qZ s r with
    |some v,some l=>some ((i,v)::l)
    |_,_=>none
def qk(s:St):Option Operand->Option (Option RV)
  |none=>some none
  |some x=>match s.opd x with|some v=>some (some v)|none=>none
def notD:RV->Option (PD×Bool)
  | .d (.bool b)=>some (.bool !b,true)
  |_=>none
def negD:RV->Option (PD×Bool)
  | .d (.int k n)=>some (.int k (k.wrap (0-n)),true)
  |_=>none
def convD(P:Program)(src dst:TypeId)(x:RV):Option (PD×Bool):=
  match P.underlying src,P.underlying dst,x with
  |some (.int _),some (.int k),.d (.int _ n)=>some (.int k (k.wrap n),true)
  |some .string,some .string,.d (.str s)=>some (.str s,true)
  |_,_,_=>none
def u8s:List PD->Option (List Int)
  | []=>some []
  | .int .u8 n::r=>(match u8s r with|some l=>some (n::l)|none=>none)
  |_=>none
def vH(l:List Int):List UInt8:=l.map fun n=>UInt8.ofNat n.toNat
theorem Bt(l:List Int):u8s (l.map (.int .u8))=some l:=by
  induction l with
  |nil=>rfl
  |cons n l ih=>simp only [List.map_cons,u8s,ih]
theorem yF:∀{es:List PD}{ns:List Int},u8s es=some ns->es=ns.map (.int .u8)
  | [],ns,h=>by cases h;rfl
  |p::r,ns,h=>by
    cases p<;>first|(cases h;done)|skip
    rename_i k n
    cases k<;>first|(cases h;done)|skip
    simp only [u8s]at h
    rcases hr:u8s r with _|l
    · rw [hr]at h;cases h
    · rw [hr]at h
      cases h
      rw [yF hr]
      rfl
def tM(P:Program)(id:Nat)(src dst:TypeId)(x:RV):M (RV×Ups):=
  match P.underlying src,P.underlying dst,x with
  |some .string,some (.slice e),.d (.str s)=>
    (match P.underlying e with
     |some (.int .u8)=>M.bind (M.qf id) fun _=>M.pO (decide (szT P e=some 1∧s.length<=140737488355328)) (.ref id 0,[(id,.arr 0 e (s.map fun b=>.int .u8 b.toNat))])
     |_=>M.fail)
  |some (.slice e),some .string,.ref i ver=>
    (match P.underlying e with
     |some (.int .u8)=>M.bind (M.get i) fun
       | .arr ver' _ es=>if ver=ver' then(match u8s es with|some ns=>qu (.d (.str (vH ns)))|none=>M.fail)else M.fail
       |_=>M.fail
     |_=>M.fail)
  |some (.slice e),some .string,.d (.lst es)=>
    (match P.underlying e with
     |some (.int .u8)=>(match u8s es with|some ns=>qu (.d (.str (vH ns)))|none=>M.fail)
     |_=>M.fail)
  |_,_,_=>uQ (convD P src dst x)
def ifcD(P:Program)(t:TypeId)(x:RV):M (RV×Ups):=
  match P.underlying t,x with
  |some (.interface _),_=>M.fail
  |some _,.d p=>qu (.ifc t (.d p))
  |some _,.ptr id off=>qu (.ifc t (.ptr id off))
  |_,_=>M.fail
def ur(P:Program)(x:RV)(asserted:TypeId)(ok:Bool):M (RV×Ups):=
  match P.underlying asserted,x with
  |some (.interface _),_=>M.fail
  |some _,.ifc t c=>if t=asserted then qu (if ok then .tup [c,.d (.bool true)]else c)else M.fail
  |_,_=>M.fail
def yp(P:Program)(t:TypeId)(name:String):Option (FuncId×Option TypeId):=
  match P.info? t with
  |some i=>
    (match i.methods.find? (·.name == name), P.underlying t with
     |some m,some u=>
       (match m.path.toList, m.func, u with
        | [],some (f,true),.pointer _=>some (f,none)
        | [],some (f,false),.pointer e=>some (f,some e)
        |_,_,_=>none)
     |_,_=>none)
  |none=>none
def uD(P:Program)(mt:Hf)(call:pT)(base:Nat)(x:RV)(name:String)(as:List RV):M (RV×Ups):=
  match x with
  | .ifc t c=>
    (match yp P t name with
     |some (f,none)=>sk mt.by_ call f base (c::as)
     |some (f,some e)=>M.bind (tp P e c) fun(v,_)=>sk mt.by_ call f base (v::as)
     |none=>M.fail)
  |_=>M.fail
def pX(P:Program)(mt:Hf)(call:pT)(s:St)(o:Oper):M (RV×Ups):=
  match o.op with
  | .move x| .assign x=>(match s.opd x with|some v=>qu v|none=>M.fail)
  | .pick c a b=>
    (match s.opd c with
     |some (.d (.bool t))=>(match(if t then s.opd a else s.opd b)with|some v=>qu v|none=>M.fail)
     |_=>M.fail)
  | .alloc t=>vR P (o.dst.getD 0*16) t
  | .box _ x=>(match s.opd x with|some v=>boxD (o.dst.getD 0*16) v|none=>M.fail)
  | .build t parts=>(match qZ s parts.toList with|some l=>vT P t l|none=>M.fail)
  | .buildSlice t len parts=>(match qZ s parts.toList with|some l=>rp P (mt.lit (o.dst.getD 0)) (o.dst.getD 0*16) t len l|none=>M.fail)
  | .load t a=>(match s.opd a with|some v=>tp P t v|none=>M.fail)
  | .store t a x=>(match s.opd a,s.opd x with|some v,some u=>tK P t v u|_,_=>M.fail)
  | .nilCheck x=>(match s.opd x with|some v=>vg 0 v|none=>M.fail)
  | .binOp op t x y _=>(match s.opd x,s.opd y with|some a,some b=>uQ (binX P op t x y a b)|_,_=>M.fail)
  | .unOp .not _ x=>(match s.opd x with|some a=>uQ (notD a)|none=>M.fail)
  | .unOp .neg _ x=>(match s.opd x with|some a=>uQ (negD a)|none=>M.fail)
  | .convert src dst x=>(match s.opd x with|some a=>tM P (o.dst.getD 0*16) src dst a|none=>M.fail)
  | .makeSlice t l c=>(match s.opd l,s.opd c with|some a,some b=>rP P (o.dst.getD 0*16) t a b|_,_=>M.fail)
  | .makeMap t r=>(match qk s r with|some none=>tE P (o.dst.getD 0*16) t|_=>M.fail)
  | .lookup t x k ok=>(match s.opd x,s.opd k with|some v,some n=>se P t v n ok|_,_=>M.fail)
  | .mapUpdate t x k y=>(match s.opd x,s.opd k,s.opd y with|some v,some n,some u=>tq P t v n u|_,_,_=>M.fail)
  | .slice t x lo hi mx=>
    (match s.opd x, qk s lo, qk s hi, qk s mx with
     |some v,some l,some h,some m=>if mt.lit (o.dst.getD 0)then wH P t v l h m else qP P (o.dst.getD 0*16) t v l h m
     |_,_,_,_=>M.fail)
  | .fieldAddr t x f=>(match s.opd x with|some v=>rN P t v f|none=>M.fail)
  | .field t x f=>(match s.opd x with|some v=>vU P t v f|none=>M.fail)
  | .indexAddr t x i=>(match s.opd x,s.opd i with|some v,some n=>qI P t v n|_,_=>M.fail)
  | .index t x i=>(match s.opd x,s.opd i with|some v,some n=>u6 P t v n|_,_=>M.fail)
  | .makeFunc fn first cs=>(match rV s cs.toList with|some l=>(match fn,first.toList with| .func g,[]=>qu (.clo g l)| .func g,[x]=>(match s.opd x,l with|some (.d (.agg [])),[]=>qu (.d (.raw (.func (.func g) #[.agg #[]] #[])))|_,_=>M.fail)|_,_=>M.fail)|none=>M.fail)
  | .makeInterface t x=>(match s.opd x with|some v=>ifcD P t v|none=>M.fail)
  | .typeAssert x _ t ok=>(match s.opd x with|some v=>ur P v t ok|none=>M.fail)
  | .extract x i=>
    (match s.opd x with
     |some (.tup vs)=>(match vs[i]? with|some v=>qu v|none=>M.fail)
     |_=>M.fail)
  | .call c=>
    (match c.callee, rV s c.args.toList with
     | .builtin .len,some [x]=>(if c.argTypes.size=1 then lenD P (c.argTypes.getD 0 0) x else M.fail)
     | .builtin .cap,some [x]=>(if c.argTypes.size=1 then capD P (c.argTypes.getD 0 0) x else M.fail)
     | .builtin .append,some [a,x]=>(if c.argTypes.size=2 then(if c.argTypes.getD 0 0=c.argTypes.getD 1 0 then rz P (o.dst.getD 0*16) (c.argTypes.getD 0 0) (c.argTypes.getD 1 0) a x else vI P (o.dst.getD 0*16) (c.argTypes.getD 0 0) (c.argTypes.getD 1 0) a x)else M.fail)
     | .builtin .copy,some [a,x]=>(if c.argTypes.size=2 then vK P (c.argTypes.getD 0 0) a x else M.fail)
     | .builtin .clear,some [a]=>(if c.argTypes.size=1 then tX P (c.argTypes.getD 0 0) a else M.fail)
     | .builtin .min,some l=>minD l
     | .builtin .max,some l=>maxD l
     | .invoke rc name,some as=>(match s.opd rc with|some v=>uD P mt call (o.dst.getD 0*16) v name as|none=>M.fail)
     | .value f,some as=>
       (match s.opd f with
        |some (.d (.raw (.func (.func g) ⟨[]⟩ ⟨[]⟩)))=>sk mt.by_ call g (o.dst.getD 0*16) as
        |some (.d (.raw (.func (.func g) ⟨[.agg ⟨[]⟩]⟩ ⟨[]⟩)))=>sk mt.by_ call g (o.dst.getD 0*16) (.d (.agg [])::as)
        |some (.clo g cs)=>sk mt.by_ call g (o.dst.getD 0*16) (as++cs)
        |_=>M.fail)
     |_,_=>M.fail)
  |_=>M.fail
def pL(ops:Array Oper)(s:St)(o:Oper):Option Bool:=
  match o.guard with
  |none=>some true
  |some (j,want)=>
    match(ops[j]?).bind (·.dst)with
    |none=>none
    |some t=>
      match s.pU t with
      |some (.d (.bool b))=>some (b==want)
      |some .undef=>some false
      |_=>none
structure Tr where
  rd:List Nat
  wr:List Nat
def step1(P:Program)(mt:Hf)(call:pT)(ops:Array Oper)(o:Oper)(s:St):Option (St×Tr):=
  match pL ops s o with
  |some w=>
    if w then
      match pX P mt call s o s.boxes with
      |some ((v,u),rd,c)=>if c then some ((s.ups u).put o.dst v,⟨rd,u.map (·.1)⟩)else none
      |none=>none
    else some (s.put o.dst .undef,⟨[],[]⟩)
  |none=>none
def rj(P:Program)(mt:Hf)(call:pT)(ops:Array Oper):List Oper->St->Option (St×List Tr)
  | [],s=>some (s,[])
  |o::r,s=>
    match step1 P mt call ops o s with
    |some (s',t)=>(match rj P mt call ops r s' with|some (s'',ts)=>some (s'',t::ts)|none=>none)
    |none=>none
def xR:List Oper->List Nat->List Nat
  | [],acc=>acc
  |o::r,acc=>xR r (acc++[o.after.toList.foldl (fun b e=>if Region.binds .any e then b ||| (2 ^ e.on ||| acc.getD e.on 0)else b) 0])
def xd(ops:Array Oper)(x:Oper×Tr)(y:Oper×Tr):Bool:=
  x.1.apart ops y.1&&disj x.2.wr y.2.rd&&disj y.2.wr x.2.rd&&disj x.2.wr y.2.wr
def wF(ops:Array Oper)(ts:List Tr):Bool:=
  let l:=ops.toList
  let an:=xR l []
  let xs:=l.zip ts
  Region.noSelect ops&&
  (l.zipIdx.all fun(o,i)=>o.after.toList.all fun e=> !Region.binds .any e||decide (e.on<i))&&
  (xs.zipIdx.all fun(y,i)=>xs.zipIdx.all fun(x,j)=> !decide (j<i)||(an.getD i 0).testBit j||xd ops x y)
inductive Ex where
  |normal
  |exit (id:Nat)
  |ret
def uv(body:St->Option (Ex×St)):Nat->St->Option (Ex×St)
  |0,_=>none
  |n+1,s=>
    match body s with
    |some (.normal,s')=>uv body n s'
    |r=>r
inductive Pl where
  |reg (t:Nat)
  |cell (id off:Nat)
  deriving Inhabited
def tH(s:St):Pl->Option RV
  | .reg t=>s.pU t
  | .cell id off=>(match s.boxes id with|some (.var cs)=>cs[off]? |_=>none)
def uR(s:St)(v:RV):Pl->St
  | .reg t=>{ s with pU:=fun x=>if x=t then some v else s.pU x }
  | .cell id off=>(match s.boxes id with|some (.var cs)=>{ s with boxes:=fun i=>if i=id then some (.var (cs.set off v))else s.boxes i }|_=>s)
def fixRV(id:Nat)(ps:List PD):RV->RV
  | .ptr i off=>if i=id then .cptr (ps.drop off)else .ptr i off
  |v=>v
inductive xQ where
  |py (pU boxes:List Nat)
  |own (reg id:Nat) (e:TypeId)
  |freeze (reg:Nat)
  |frz (p:Pl)
  |ownp (p:Pl) (id:Nat) (e:TypeId)
  |mv (p:Pl) (new:Nat)
  |fixv (id:Nat)
  |bump (reg:Nat)
  |bumpp (p:Pl)
  deriving Inhabited
def assoc{α:Type}:List (Nat×α)->Nat->Option α
  | [],_=>none
  |(k,a)::r,t=>if t=k then some a else assoc r t
def gets{α:Type}(f:Nat->Option α):List Nat->Option (List (Nat×α))
  | []=>some []
  |t::r=>match f t,gets f r with
    |some v,some l=>some ((t,v)::l)
    |_,_=>none
def ql(nb:Nat)(id cur:Nat):Nat:=if id<nb then min cur 1 else 0
def th(P:Program)(nb:Nat)(s:St):xQ->Option St
  | .py rs bs=>
    match gets s.pU rs,gets s.boxes bs with
    |some l,some m=>
      if(List.range nb).all bs.contains then
        let ρ:Ren:=⟨fun id=>if bs.contains id then some id else none,qt s.boxes (ql nb)⟩
        some { pU:=assoc (l.map fun x=>(x.1,rX ρ x.2)),boxes:=assoc (m.map fun x=>(x.1,sj ρ (ql nb x.1) x.2)) }
      else none
    |_,_=>none
  | .own t id e=>
    match s.pU t,s.boxes id,szT P e with
    |some .mo,none,some (_+1)=>some { pU:=fun x=>if x=t then some (.ref id 0)else s.pU x,boxes:=fun i=>if i=id then some (.arr 0 e [])else s.boxes i }
    |some (.ref _ _),_,_=>some s
    |_,_,_=>none
  | .freeze t=>
    match s.pU t with
    |some (.ref id ver)=>
      (match s.boxes id with
       |some (.arr ver' _ es)=>if ver=ver' then some { pU:=fun x=>if x=t then some (.d (.lst es))else s.pU x,boxes:=fun i=>if i=id then some .dead else s.boxes i }else none
       |_=>none)
    |_=>none
  | .frz p=>
    match tH s p with
    |some .mo=>some (uR s (.d (.lst [])) p)
    |some (.d _)=>some s
    |some (.ref id ver)=>
      (match s.boxes id with
       |some (.arr ver' _ es)=>if ver=ver' then some (uR { s with boxes:=fun i=>if i=id then some .dead else s.boxes i } (.d (.lst es)) p)else none
       |_=>none)
    |_=>none
  | .ownp p id e=>
    match tH s p,s.boxes id,szT P e with
    |some .mo,none,some (_+1)=>some (uR { s with boxes:=fun i=>if i=id then some (.arr 0 e [])else s.boxes i } (.ref id 0) p)
    |some (.ref _ _),_,_=>some s
    |_,_,_=>none
  | .mv p new=>
    match tH s p with
    |some .mo=>some s
    |some (.ref id _)=>
      if id=new then some s else if nb<=id∧nb<=new then
        let ρ:Ren:=⟨fun i=>if i=id then some new else if i=new then none else some i,qt s.boxes fun _ c=>c⟩
        some { pU:=fun t=>(s.pU t).map (rX ρ),boxes:=fun i=>if i=new then(s.boxes id).map (sj ρ fun c=>c)else if i=id then none else(s.boxes i).map (sj ρ fun c=>c) }
      else none
    |_=>none
  | .fixv id=>
    match s.boxes id with
    |some (.var cs)=>
      (match uh cs with
       |some ps=>if ps.all PD.one=true then some { pU:=fun t=>(s.pU t).map (fixRV id ps),boxes:=fun i=>if i=id then some .dead else s.boxes i }else none
       |none=>none)
    |_=>none
  | .bump t=>
    match s.pU t with
    |some (.ref id ver)=>
      (match s.boxes id with
       |some (.arr ver' e es)=>if ver=ver' then some { pU:=fun x=>if x=t then some (.ref id (ver+1))else s.pU x,boxes:=fun i=>if i=id then some (.arr (ver+1) e es)else s.boxes i }else none
       |_=>none)
    |_=>none
  | .bumpp p=>
    match tH s p with
    |some (.ref id ver)=>
      (match s.boxes id with
       |some (.arr ver' e es)=>if ver=ver' then some (uR { s with boxes:=fun i=>if i=id then some (.arr (ver+1) e es)else s.boxes i } (.ref id (ver+1)) p)else none
       |_=>none)
    |_=>none
def p6(P:Program)(nb:Nat)(s:St):List xQ->Option St
  | []=>some s
  |g::r=>match th P nb s g with|some s'=>p6 P nb s' r|none=>none
structure Hints where
  at_:FuncId->Nat->Nat->List xQ
  mt:FuncId->Nat->Bool
  by_:FuncId->Nat->Bool
  own:FuncId->Nat->Bool
def Hints.hf(H:Hints)(f:FuncId):Hf:=⟨H.mt f,H.by_⟩
def wB(P:Program)(H:Hints)(f:FuncId)(nb:Nat)(call:pT)(id:Nat)(ops:Array Oper)(dr:Bool)(s:St):Option St:=
  match p6 P nb s (H.at_ f nb id)with
  |none=>none
  |some s0=>
    match rj P (H.hf f) call ops ops.toList s0 with
    |some (s',ts)=>if dr then(if wF ops ts then some s' else none)else some s'
    |none=>none
def pZ(P:Program)(H:Hints)(f:FuncId)(nb:Nat)(call:pT)(fuel:Nat):Code->St->Option (Ex×St)
  | .skip,s=>some (.normal,s)
  | .region id ops dr,s=>(match wB P H f nb call id ops dr s with|some s'=>some (.normal,s')|none=>none)
  | .seq a b,s=>
    match pZ P H f nb call fuel a s with
    |some (.normal,s')=>pZ P H f nb call fuel b s'
    |r=>r
  | .cond c a b,s=>
    match s.opd c with
    |some (.d (.bool t))=>if t then pZ P H f nb call fuel a s else pZ P H f nb call fuel b s
    |_=>none
  | .block id b,s=>
    match pZ P H f nb call fuel b s with
    |some (.exit id',s')=>if id'=id then some (.normal,s')else some (.exit id',s')
    |r=>r
  | .loop b,s=>uv (pZ P H f nb call fuel b) fuel s
  | .exit id,s=>some (.exit id,s)
  | .ret,s=>some (.ret,s)
  | .scope b,s=>pZ P H f nb call fuel b s
  | .label _,s=>some (.normal,s)
  |_,_=>none
def outV(own:Bool)(v:RV):M (RV×Ups):=
  match v with
  | .agg cs=>if own then M.pure (v,[])else M.bind (tS cs) fun(ps,u)=>M.pure (.d (.agg ps),u)
  | .mo=>M.pure (.d (.lst []),[])
  | .ref _ _| .view _ _ _ _=>if own then M.pure (v,[])else M.bind (sD v) fun(p,u)=>M.pure (.d p,u)
  | .tup _=>M.fail
  |v=>M.pure (v,[])
def resV(P:Program)(s:St):ResultVar->M RV
  | .tmp t=>(match s.pU t with|some v=>M.pure v|none=>M.fail)
  | .cell t ty=>M.bind (match s.pU t with|some a=>tp P ty a|none=>M.fail) fun(v,_)=>M.pure v
def resD(P:Program)(own:Nat->Bool)(s:St):Nat->List ResultVar->M (List RV×Ups)
  |_,[]=>M.pure ([],[])
  |i,x::r=>M.bind (resV P s x) fun v=>M.bind (outV (own i) v) fun(y,u)=>M.bind (resD P own s (i+1) r) fun(ys,us)=>M.pure (y::ys,u++us)
def one(l:List RV):RV:=match l with| [v]=>v|l=>.tup l
def xn(nt:Nat):Code->Bool
  | .region _ ops _=>ops.all fun o=>match o.dst with|some d=>decide (d<nt)|none=>true
  | .seq a b| .cond _ a b=>xn nt a&&xn nt b
  | .block _ b| .loop b| .scope b=>xn nt b
  |_=>true
def finish(P:Program)(own:Nat->Bool)(fn:Func)(nb:Nat)(s:St):Option (RV×List Box):=
  match resD P own s 0 fn.results.toList s.boxes with
  |some ((rs,u),_,true)=>
    let b1:=wQ s.boxes u
    match M.bind (tj 64 [] (List.range nb++rs.flatMap idsV)) (fun ids=>M.bind (vP ids) fun bxs=>M.pure (ids,bxs)) b1 with
    |some ((ids,bxs),_,true)=>
      if ids.take nb=List.range nb∧nodup ids=true then
        let ρ:Ren:=⟨idxOf ids,qt b1 (ql nb)⟩
        some (rX ρ (one rs),(ids.zip bxs).map fun x=>sj ρ (ql nb x.1) x.2)
      else none
    |_=>none
  |_=>none
def qw(P:Program)(H:Hints)(ext:FuncId->Option pT):Nat->pT
  |0,_,_,_=>none
  |n+1,f,args,bs=>
    match ext f with
    |some g=>g f args bs
    |none=>
      match P.funcs[f]? with
      |some fn=>
        match fn.body with
        |some c=>
          if xn fn.ntmps c && (fn.name != "runtime.NumGoroutine") && decide (args.length ≤ fn.ntmps) && bs.all (fun b => verB b == 0) then
            match pZ P H f bs.length (qw P H ext n) n c { pU:=look args,boxes:=look bs }with
            |some (.normal,s)=>finish P (H.own f) fn bs.length s
            |some (.ret,s)=>finish P (H.own f) fn bs.length s
            |_=>none
          else none
        |none=>none
      |none=>none
end Go.Dw
