
import Derived.Test.YtmmgjlgoggielaaGreatDwCore

namespace Go.Dw
structure St where
  ou:Nat->Option RV
  boxes:oA
def St.put(s:St)(dst:Option Nat)(v:RV):St:=
  match dst with
  |some d=>{ s with ou:=fun t=>if t=d then some v else s.ou t }
  |none=>s
def St.ups(s:St):Ups->St
  | []=>s
  |(id,b)::r=>St.ups { s with boxes:=fun i=>if i=id then some b else s.boxes i } r
def St.opd(s:St):Operand->Option RV
  | .tmp t=>s.ou t
  | .const v=>some (oU v)
  | .func f=>some (.d (.raw (.func (.func f) #[] #[])))
  | .global _=>none
abbrev oB:=FuncId->List RV->List Box->Option (RV×List Box)
def ids1:RV->List Nat
  | .ref id _| .ptr id _| .elt id _ _ _| .view id _ _ _| .fview id _ _=>[id]
  |_=>[]
def idsV:RV->List Nat
  | .agg cs| .tup cs| .clo _ cs=>cs.flatMap ids1
  | .ifc _ c=>ids1 c
  |v=>ids1 v
def idsB:Box->List Nat
  | .var cs=>cs.flatMap idsV
  | .nest _ _ _ _ (some (_,rv))=>idsV rv
  |_=>[]
structure Ren where
  pos:Nat->Option Nat
  ver:Nat->Nat->Option Nat
def tZ(ρ:Ren):RV->RV
  | .ref id ver=>(match ρ.pos id,ρ.ver id ver with|some k,some v=>.ref k v|_,_=>.junk)
  | .view id ver lo hi=>(match ρ.pos id,ρ.ver id ver with|some k,some v=>.view k v lo hi|_,_=>.junk)
  | .elt id ver i o=>(match ρ.pos id,ρ.ver id ver with|some k,some v=>.elt k v i o|_,_=>.junk)
  | .ptr id off=>(match ρ.pos id with|some k=>.ptr k off|none=>.junk)
  | .agg _=>.junk
  | .tup _=>.junk
  | .clo _ _=>.junk
  | .ifc _ _=>.junk
  | .fview id ver hi=>(match ρ.pos id,ρ.ver id ver with|some k,some v=>.fview k v hi|_,_=>.junk)
  |v=>v
def qe(ρ:Ren):RV->RV
  | .agg cs=>.agg (cs.map (tZ ρ))
  | .tup cs=>.tup (cs.map (tZ ρ))
  | .clo f cs=>.clo f (cs.map (tZ ρ))
  | .ifc t c=>.ifc t (tZ ρ c)
  |v=>tZ ρ v
def qj(ρ:Ren)(f:Nat->Nat):Box->Box
  | .arr ver e es=>.arr (f ver) e es
  | .var cs=>.var (cs.map (qe ρ))
  | .dead=>.dead
  | .map kt vt es=>.map kt vt es
  | .nest ver e e2 ess h=>.nest (f ver) e e2 ess (match h with|some (i,rv)=>some (i,qe ρ rv)|none=>none)
  | .mapn kt vt e2 es h=>.mapn kt vt e2 es h
def oX(b:oA)(f:Nat->Nat->Nat)(id ver:Nat):Option Nat:=
  match b id with
  |some (.arr cur _ _)=>if ver=cur then some (f id cur)else none
  |some (.nest cur _ _ _ _)=>if ver=cur then some (f id cur)else none
  |_=>none
def idxOf(l:List Nat)(id:Nat):Option Nat:=
  match l with
  | []=>none
  |a::r=>if id=a then some 0 else(idxOf r id).map (· +1)
def qp:Nat->List Nat->List Nat->M (List Nat)
  |0,_,_=>M.fail
  |_+1,done,[]=>M.pure done
  |n+1,done,i::todo=>if done.contains i then qp n done todo else M.bind (M.get i) fun b=>qp n (done++[i]) (todo++idsB b)
def tp:List Nat->M (List Box)
  | []=>M.pure []
  |i::r=>M.bind (M.get i) fun b=>M.bind (tp r) fun l=>M.pure (b::l)
def qa:List Nat->M Unit
  | []=>M.pure ()
  |i::r=>M.bind (M.ov i) fun _=>qa r
def look{α:Type}:List α->Nat->Option α
  | [],_=>none
  |a::_,0=>some a
  |_::r,n+1=>look r n
def argD(byref:Bool)(v:RV):M (RV×Ups):=
  match v with
  | .ptr _ _| .elt _ _ _ _| .clo _ _| .ifc _ _=>M.pure (v,[])
  | .ref _ _| .view _ _ _ _=>if byref then M.pure (v,[])else M.bind (qu v) fun(p,u)=>M.pure (.d p,u)
  | .nR=>if byref then M.pure (v,[])else M.bind (qu v) fun(p,u)=>M.oa v.sized (.d p,u)
  | .agg _=>if byref then M.pure (v,[])else M.bind (qu v) fun(p,u)=>M.oa v.sized (.d p,u)
  |v=>M.bind (qu v) fun(p,u)=>M.oa v.sized (.d p,u)
def tA(by_:Nat->Bool):Nat->List RV->M (List RV×Ups)
  |_,[]=>M.pure ([],[])
  |i,v::r=>M.bind (argD (by_ i) v) fun(x,u)=>M.bind (tA by_ (i+1) r) fun(l,us)=>M.pure (x::l,u++us)
def nodup:List Nat->Bool
  | []=>true
  |a::r=> !r.contains a&&nodup r
def disj(a b:List Nat):Bool:=a.all fun x=> !b.contains x
def verB:Box->Nat
  | .arr v _ _=>v
  | .nest v _ _ _ _=>v
  |_=>0
def tk(b:oA):Ups->oA
  | []=>b
  |(id,x)::r=>tk (fun i=>if i=id then some x else b i) r
structure Hf where
  lit:Nat->Bool
  by_:FuncId->Nat->Bool
def offOf(bxs:List Box)(k:Nat):Nat:=match look bxs k with|some b=>verB b|none=>0
def qn(base n:Nat):List Nat:=(List.range n).map (base+ ·)
def rC(ids:List Nat)(bxs:List Box):Ren:=⟨idxOf ids,oX (fun i=>(idxOf ids i).bind (look bxs)) fun _ _=>0⟩
def vM(all:List Nat)(bxs bs':List Box):Ren:=⟨look all,oX (look bs') fun k cur=>offOf bxs k+cur⟩
def vg(all:List Nat)(bxs bs':List Box):Ups:=all.zip (bs'.zipIdx.map fun x=>qj (vM all bxs bs') (fun cur=>offOf bxs x.2+cur) x.1)
def ql(by_:FuncId->Nat->Bool)(call:oB)(f:FuncId)(base:Nat)(args:List RV):M (RV×Ups):=
  M.bind (tA (by_ f) 0 args) fun(as,u0)=>
  M.bind (qp 64 [] (as.flatMap idsV)) fun ids=>
  M.bind (tp ids) fun bxs=>
  match call f (as.map (qe (rC ids bxs))) (bxs.map (qj (rC ids bxs) fun _=>0))with
  |some (r,bs')=>
    if ids.length<=bs'.length∧nodup ids=true∧disj ids (u0.map (·.1))=true then
      M.bind (qa (qn base (bs'.length-ids.length))) fun _=>
      M.pure (qe (vM (ids++qn base (bs'.length-ids.length)) bxs bs') r,u0++vg (ids++qn base (bs'.length-ids.length)) bxs bs')
    else M.fail
  |none=>M.fail
def qz(s:St):List Operand->Option (List RV)
  | []=>some []
  |x::r=>match s.opd x,qz s r with
    |some v,some l=>some (v::l)
    |_,_=>none
def pH(s:St):List (Nat×Operand)->Option (List (Nat×RV))
  | []=>some []
  |(i,x)::r=>match s.opd x,pH s r with
    |some v,some l=>some ((i,v)::l)
    |_,_=>none
def o0(s:St):Option Operand->Option (Option RV)
  |none=>some none
  |some x=>match s.opd x with|some v=>some (some v)|none=>none
def notD:RV->Option (PD×Bool)
  | .d (.bool b)=>some (.bool !b,true)
  |_=>none
def negD:RV->Option (PD×Bool)
  | .d (.int k n)=>some (.int k (k.wrap (0-n)),true)
  |_=>none
def convD(P:Program)(src dst:TypeId)(x:RV):Option (PD×Bool):=
  match P.underlying src,P.underlying dst,x with
  |some (.int _),some (.int k),.d (.int _ n)=>some (.int k (k.wrap n),true)
  |some .string,some .string,.d (.str s)=>some (.str s,true)
  |_,_,_=>none
def u8s:List PD->Option (List Int)
  | []=>some []
  | .int .u8 n::r=>(match u8s r with|some l=>some (n::l)|none=>none)
  |_=>none
def strU(l:List Int):List UInt8:=l.map fun n=>UInt8.ofNat n.toNat
theorem u8s_map(l:List Int):u8s (l.map (.int .u8))=some l:=by
  induction l with
  |nil=>rfl
  |cons n l ih=>simp only [List.map_cons,u8s,ih]
theorem xl:∀{es:List PD}{ns:List Int},u8s es=some ns->es=ns.map (.int .u8)
  | [],ns,h=>by cases h;rfl
  |p::r,ns,h=>by
    cases p<;>first|(cases h;done)|skip
    rename_i k n
    cases k<;>first|(cases h;done)|skip
    simp only [u8s]at h
    rcases hr:u8s r with _|l
    · rw [hr]at h;cases h
    · rw [hr]at h
      cases h
      rw [xl hr]
      rfl
def tn(P:Program)(id:Nat)(src dst:TypeId)(x:RV):M (RV×Ups):=
  match P.underlying src,P.underlying dst,x with
  |some .string,some (.slice e),.d (.str s)=>
    (match P.underlying e with
     |some (.int .u8)=>M.bind (M.ov id) fun _=>M.oa (decide (szT P e=some 1∧s.length<=140737488355328)) (.ref id 0,[(id,.arr 0 e (s.map fun b=>.int .u8 b.toNat))])
     |_=>M.fail)
  |some (.slice e),some .string,.ref i ver=>
    (match P.underlying e with
     |some (.int .u8)=>M.bind (M.get i) fun
       | .arr ver' _ es=>if ver=ver' then(match u8s es with|some ns=>oZ (.d (.str (strU ns)))|none=>M.fail)else M.fail
       |_=>M.fail
     |_=>M.fail)
  |some (.slice e),some .string,.d (.lst es)=>
    (match P.underlying e with
     |some (.int .u8)=>(match u8s es with|some ns=>oZ (.d (.str (strU ns)))|none=>M.fail)
     |_=>M.fail)
  |_,_,_=>tq (convD P src dst x)
def ifcD(P:Program)(t:TypeId)(x:RV):M (RV×Ups):=
  match P.underlying t,x with
  |some (.interface _),_=>M.fail
  |some _,.d p=>oZ (.ifc t (.d p))
  |some _,.ptr id off=>oZ (.ifc t (.ptr id off))
  |_,_=>M.fail
def sk(P:Program)(x:RV)(asserted:TypeId)(ok:Bool):M (RV×Ups):=
  match P.underlying asserted,x with
  |some (.interface _),_=>M.fail
  |some _,.ifc t c=>if t=asserted then oZ (if ok then .tup [c,.d (.bool true)]else c)else M.fail
  |_,_=>M.fail
def xc(P:Program)(t:TypeId)(name:String):Option (FuncId×Option TypeId):=
  match P.info? t with
  |some i=>
    (match i.methods.find? (·.name == name), P.underlying t with
     |some m,some u=>
       (match m.path.toList, m.func, u with
        | [],some (f,true),.pointer _=>some (f,none)
        | [],some (f,false),.pointer e=>some (f,some e)
        |_,_,_=>none)
     |_,_=>none)
  |none=>none
def sJ(P:Program)(mt:Hf)(call:oB)(base:Nat)(x:RV)(name:String)(as:List RV):M (RV×Ups):=
  match x with
  | .ifc t c=>
    (match xc P t name with
     |some (f,none)=>ql mt.by_ call f base (c::as)
     |some (f,some e)=>M.bind (rp P e c) fun(v,_)=>ql mt.by_ call f base (v::as)
     |none=>M.fail)
  |_=>M.fail
def oE(P:Program)(mt:Hf)(call:oB)(s:St)(o:Oper):M (RV×Ups):=
  match o.op with
  | .move x| .assign x=>(match s.opd x with|some v=>oZ v|none=>M.fail)
  | .pick c a b=>
    (match s.opd c with
     |some (.d (.bool t))=>(match(if t then s.opd a else s.opd b)with|some v=>oZ v|none=>M.fail)
     |_=>M.fail)
  | .alloc t=>uj P (o.dst.getD 0*16) t
  | .box _ x=>(match s.opd x with|some v=>boxD (o.dst.getD 0*16) v|none=>M.fail)
  | .build t parts=>(match pH s parts.toList with|some l=>um P t l|none=>M.fail)
  | .buildSlice t len parts=>(match pH s parts.toList with|some l=>pM P (mt.lit (o.dst.getD 0)) (o.dst.getD 0*16) t len l|none=>M.fail)
  | .load t a=>(match s.opd a with|some v=>rp P t v|none=>M.fail)
  | .store t a x=>(match s.opd a,s.opd x with|some v,some u=>tf P t v u|_,_=>M.fail)
  | .nilCheck x=>(match s.opd x with|some v=>uf 0 v|none=>M.fail)
  | .binOp op t x y _=>(match s.opd x,s.opd y with|some a,some b=>tq (binX P op t x y a b)|_,_=>M.fail)
  | .unOp .not _ x=>(match s.opd x with|some a=>tq (notD a)|none=>M.fail)
  | .unOp .neg _ x=>(match s.opd x with|some a=>tq (negD a)|none=>M.fail)
  | .convert src dst x=>(match s.opd x with|some a=>tn P (o.dst.getD 0*16) src dst a|none=>M.fail)
  | .makeSlice t l c=>(match s.opd l,s.opd c with|some a,some b=>pD P (o.dst.getD 0*16) t a b|_,_=>M.fail)
  | .makeMap t r=>(match o0 s r with|some none=>if mt.lit (o.dst.getD 0)then rq P (o.dst.getD 0*16) t else qL P (o.dst.getD 0*16) t|_=>M.fail)
  | .mapEntry t x k=>(match s.opd x,s.opd k with|some v,some n=>qy P (o.dst.getD 0*16) t v n|_,_=>M.fail)
  | .entryStore _ x n y=>(match s.opd x,s.opd n,s.opd y with|some v,some q,some u=>pN v q u|_,_,_=>M.fail)
  | .lookup t x k ok=>(match s.opd x,s.opd k with|some v,some n=>qW P t v n ok|_,_=>M.fail)
  | .mapUpdate t x k y=>(match s.opd x,s.opd k,s.opd y with|some v,some n,some u=>sX P t v n u|_,_,_=>M.fail)
  | .slice t x lo hi mx=>
    (match s.opd x, o0 s lo, o0 s hi, o0 s mx with
     |some v,some l,some h,some m=>if mt.lit (o.dst.getD 0)then wk P t v l h m else pE P (o.dst.getD 0*16) t v l h m
     |_,_,_,_=>M.fail)
  | .fieldAddr t x f=>(match s.opd x with|some v=>qd P t v f|none=>M.fail)
  | .field t x f=>(match s.opd x with|some v=>uq P t v f|none=>M.fail)
  | .indexAddr t x i=>(match s.opd x,s.opd i with|some v,some n=>pk P t v n|_,_=>M.fail)
  | .index t x i=>(match s.opd x,s.opd i with|some v,some n=>tG P t v n|_,_=>M.fail)
  | .makeFunc fn first cs=>(match qz s cs.toList with|some l=>(match fn,first.toList with| .func g,[]=>oZ (.clo g l)|_,_=>M.fail)|none=>M.fail)
  | .makeInterface t x=>(match s.opd x with|some v=>ifcD P t v|none=>M.fail)
  | .typeAssert x _ t ok=>(match s.opd x with|some v=>sk P v t ok|none=>M.fail)
  | .extract x i=>
    (match s.opd x with
     |some (.tup vs)=>(match vs[i]? with|some v=>oZ v|none=>M.fail)
     |_=>M.fail)
  | .call c=>
    (match c.callee, qz s c.args.toList with
     | .builtin .len,some [x]=>(if c.argTypes.size=1 then w5 P (c.argTypes.getD 0 0) x else M.fail)
     | .builtin .cap,some [x]=>(if c.argTypes.size=1 then capD P (c.argTypes.getD 0 0) x else M.fail)
     | .builtin .append,some [a,x]=>(if c.argTypes.size=2 then(if c.argTypes.getD 0 0=c.argTypes.getD 1 0 then pS P (o.dst.getD 0*16) (c.argTypes.getD 0 0) (c.argTypes.getD 1 0) a x else vU P (o.dst.getD 0*16) (c.argTypes.getD 0 0) (c.argTypes.getD 1 0) a x)else M.fail)
     | .builtin .copy,some [a,x]=>(if c.argTypes.size=2 then vV P (c.argTypes.getD 0 0) a x else M.fail)
     | .builtin .clear,some [a]=>(if c.argTypes.size=1 then rU P (c.argTypes.getD 0 0) a else M.fail)
     | .builtin .min,some l=>minD l
     | .builtin .max,some l=>maxD l
     | .invoke rc name,some as=>(match s.opd rc with|some v=>sJ P mt call (o.dst.getD 0*16) v name as|none=>M.fail)
     | .value f,some as=>
       (match s.opd f with
        |some (.d (.raw (.func (.func g) ⟨[]⟩ ⟨[]⟩)))=>ql mt.by_ call g (o.dst.getD 0*16) as
        |some (.clo g cs)=>ql mt.by_ call g (o.dst.getD 0*16) (as++cs)
        |_=>M.fail)
     |_,_=>M.fail)
  |_=>M.fail
def n9(ops:Array Oper)(s:St)(o:Oper):Option Bool:=
  match o.guard with
  |none=>some true
  |some (j,want)=>
    match(ops[j]?).bind (·.dst)with
    |none=>none
    |some t=>
      match s.ou t with
      |some (.d (.bool b))=>some (b==want)
      |some .undef=>some false
      |_=>none
structure Tr where
  rd:List Nat
  wr:List Nat
def p8(P:Program)(mt:Hf)(call:oB)(ops:Array Oper)(o:Oper)(s:St):Option (St×Tr):=
  match n9 ops s o with
  |some w=>
    if w then
      match oE P mt call s o s.boxes with
      |some ((v,u),rd,c)=>if c then some ((s.ups u).put o.dst v,⟨rd,u.map (·.1)⟩)else none
      |none=>none
    else some (s.put o.dst .undef,⟨[],[]⟩)
  |none=>none
def pK(P:Program)(mt:Hf)(call:oB)(ops:Array Oper):List Oper->St->Option (St×List Tr)
  | [],s=>some (s,[])
  |o::r,s=>
    match p8 P mt call ops o s with
    |some (s',t)=>(match pK P mt call ops r s' with|some (s'',ts)=>some (s'',t::ts)|none=>none)
    |none=>none
def wI:List Oper->List Nat->List Nat
  | [],acc=>acc
  |o::r,acc=>wI r (acc++[o.after.toList.foldl (fun b e=>if Region.binds .any e then b ||| (2 ^ e.on ||| acc.getD e.on 0)else b) 0])
def vN(ops:Array Oper)(x:Oper×Tr)(y:Oper×Tr):Bool:=
  x.1.apart ops y.1&&disj x.2.wr y.2.rd&&disj y.2.wr x.2.rd&&disj x.2.wr y.2.wr
def ve(ops:Array Oper)(ts:List Tr):Bool:=
  let l:=ops.toList
  let an:=wI l []
  let xs:=l.zip ts
  Region.noSelect ops&&
  (l.zipIdx.all fun(o,i)=>o.after.toList.all fun e=> !Region.binds .any e||decide (e.on<i))&&
  (xs.zipIdx.all fun(y,i)=>xs.zipIdx.all fun(x,j)=> !decide (j<i)||(an.getD i 0).testBit j||vN ops x y)
inductive Ex where
  |normal
  |exit (id:Nat)
  |ret
def sq(body:St->Option (Ex×St)):Nat->St->Option (Ex×St)
  |0,_=>none
  |n+1,s=>
    match body s with
    |some (.normal,s')=>sq body n s'
    |r=>r
inductive Pl where
  |reg (t:Nat)
  |cell (id off:Nat)
  deriving Inhabited
def qt(s:St):Pl->Option RV
  | .reg t=>s.ou t
  | .cell id off=>(match s.boxes id with|some (.var cs)=>cs[off]? |_=>none)
def qN(s:St)(v:RV):Pl->St
  | .reg t=>{ s with ou:=fun x=>if x=t then some v else s.ou x }
  | .cell id off=>(match s.boxes id with|some (.var cs)=>{ s with boxes:=fun i=>if i=id then some (.var (cs.set off v))else s.boxes i }|_=>s)
def fixRV(id:Nat)(ps:List PD):RV->RV
  | .ptr i off=>if i=id then .cptr (ps.drop off)else .ptr i off
  |v=>v
inductive wH where
  |nU (ou boxes:List Nat)
  |own (reg id:Nat) (e:TypeId)
  |freeze (reg:Nat)
  |frz (p:Pl)
  |ownp (p:Pl) (id:Nat) (e:TypeId)
  |mv (p:Pl) (new:Nat)
  |fixv (id:Nat)
  |bump (reg:Nat)
  |bumpp (p:Pl)
  |ownn (p:Pl) (id:Nat) (e e2:TypeId)
  |lend (id:Nat) (i:Option Nat) (new:Nat)
  |give (id:Nat)
  |frzn (p:Pl)
  |frzm (id:Nat)
  deriving Inhabited
def assoc{α:Type}:List (Nat×α)->Nat->Option α
  | [],_=>none
  |(k,a)::r,t=>if t=k then some a else assoc r t
def gets{α:Type}(f:Nat->Option α):List Nat->Option (List (Nat×α))
  | []=>some []
  |t::r=>match f t,gets f r with
    |some v,some l=>some ((t,v)::l)
    |_,_=>none
def oD(nb:Nat)(id cur:Nat):Nat:=if id<nb then min cur 1 else 0
def yf(s:St)(ess:List (List PD)):Option Nat->Option (Nat×List PD)
  |none=>(match ess[ess.length-1]? with|some es=>some (ess.length-1,es)|none=>none)
  | some t => (match s.ou t with
    |some (.d (.int _ n))=>if 0<=n then(match ess[n.toNat]? with|some es=>some (n.toNat,es)|none=>none)else none
    |_=>none)
def pP(P:Program)(nb:Nat)(s:St):wH->Option St
  | .nU rs bs=>
    match gets s.ou rs,gets s.boxes bs with
    |some l,some m=>
      if(List.range nb).all bs.contains then
        let ρ:Ren:=⟨fun id=>if bs.contains id then some id else none,oX s.boxes (oD nb)⟩
        some { ou:=assoc (l.map fun x=>(x.1,qe ρ x.2)),boxes:=assoc (m.map fun x=>(x.1,qj ρ (oD nb x.1) x.2)) }
      else none
    |_,_=>none
  | .own t id e=>
    match s.ou t,s.boxes id,szT P e with
    |some .nR,none,some (_+1)=>some { ou:=fun x=>if x=t then some (.ref id 0)else s.ou x,boxes:=fun i=>if i=id then some (.arr 0 e [])else s.boxes i }
    |some (.ref _ _),_,_=>some s
    |_,_,_=>none
  | .freeze t=>
    match s.ou t with
    |some (.ref id ver)=>
      (match s.boxes id with
       |some (.arr ver' _ es)=>if ver=ver' then some { ou:=fun x=>if x=t then some (.d (.lst es))else s.ou x,boxes:=fun i=>if i=id then some .dead else s.boxes i }else none
       |_=>none)
    |_=>none
  | .frz p=>
    match qt s p with
    |some .nR=>some (qN s (.d (.lst [])) p)
    |some (.d _)=>some s
    |some (.ref id ver)=>
      (match s.boxes id with
       |some (.arr ver' _ es)=>if ver=ver' then some (qN { s with boxes:=fun i=>if i=id then some .dead else s.boxes i } (.d (.lst es)) p)else none
       |_=>none)
    |_=>none
  | .ownp p id e=>
    match qt s p,s.boxes id,szT P e with
    |some .nR,none,some (_+1)=>some (qN { s with boxes:=fun i=>if i=id then some (.arr 0 e [])else s.boxes i } (.ref id 0) p)
    |some (.ref _ _),_,_=>some s
    |_,_,_=>none
  | .mv p new=>
    match qt s p with
    |some .nR=>some s
    |some (.ref id _)=>
      if id=new then some s else if nb<=id∧nb<=new then
        let ρ:Ren:=⟨fun i=>if i=id then some new else if i=new then none else some i,oX s.boxes fun _ c=>c⟩
        some { ou:=fun t=>(s.ou t).map (qe ρ),boxes:=fun i=>if i=new then(s.boxes id).map (qj ρ fun c=>c)else if i=id then none else(s.boxes i).map (qj ρ fun c=>c) }
      else none
    |_=>none
  | .fixv id=>
    match s.boxes id with
    |some (.var cs)=>
      (match tz cs with
       |some ps=>if ps.all PD.one=true then some { ou:=fun t=>(s.ou t).map (fixRV id ps),boxes:=fun i=>if i=id then some .dead else s.boxes i }else none
       |none=>none)
    |_=>none
  | .bump t=>
    match s.ou t with
    |some (.ref id ver)=>
      (match s.boxes id with
       |some (.arr ver' e es)=>if ver=ver' then some { ou:=fun x=>if x=t then some (.ref id (ver+1))else s.ou x,boxes:=fun i=>if i=id then some (.arr (ver+1) e es)else s.boxes i }else none
       |_=>none)
    |_=>none
  | .bumpp p=>
    match qt s p with
    |some (.ref id ver)=>
      (match s.boxes id with
       |some (.arr ver' e es)=>if ver=ver' then some (qN { s with boxes:=fun i=>if i=id then some (.arr (ver+1) e es)else s.boxes i } (.ref id (ver+1)) p)else none
       |_=>none)
    |_=>none
  | .ownn p id e e2=>
    match qt s p,s.boxes id,szT P e,szT P e2 with
    |some .nR,none,some 1,some (_+1)=>some (qN { s with boxes:=fun i=>if i=id then some (.nest 0 e e2 [] none)else s.boxes i } (.ref id 0) p)
    |some (.ref _ _),_,_,_=>some s
    |_,_,_,_=>none
  | .lend id i new=>
    match s.boxes id,s.boxes new with
    |some (.nest ver e e2 ess none),none=>
      (match yf s ess i with
       |some (j,es)=>some { s with boxes:=fun k=>if k=new then some (.arr 0 e2 es)else if k=id then some (.nest ver e e2 ess (some (j,.ref new 0)))else s.boxes k }
       |none=>none)
    |_,_=>none
  | .give id=>
    match s.boxes id with
    |some (.nest ver e e2 ess (some (i,.ref k kv)))=>
      (match s.boxes k with
       |some (.arr kv' e' es)=>if kv=kv'∧e'=e2∧k≠id then some { s with boxes:=fun j=>if j=k then some .dead else if j=id then some (.nest ver e e2 (ess.set i es) none)else s.boxes j }else none
       |_=>none)
    |some (.nest _ _ _ _ (some _))=>none
    |_=>some s
  | .frzn p=>
    match qt s p with
    |some (.ref id ver)=>
      (match s.boxes id with
       |some (.nest ver' _ _ ess none)=>if ver=ver' then some (qN { s with boxes:=fun i=>if i=id then some .dead else s.boxes i } (.d (.lst (ess.map .lst))) p)else none
       |_=>none)
    |some .nR=>some (qN s (.d (.lst [])) p)
    |some (.d _)=>some s
    |_=>none
  | .frzm id=>
    match s.boxes id with
    |some (.mapn kt vt _ es none)=>some { s with boxes:=fun i=>if i=id then some (.map kt vt (wu es))else s.boxes i }
    |some (.mapn _ _ _ _ (some _))=>none
    |_=>some s
def hY(P:Program)(nb:Nat)(s:St):List wH->Option St
  | []=>some s
  |g::r=>match pP P nb s g with|some s'=>hY P nb s' r|none=>none
structure Hints where
  at_:FuncId->Nat->Nat->List wH
  mt:FuncId->Nat->Bool
  by_:FuncId->Nat->Bool
  own:FuncId->Nat->Bool
def Hints.hf(H:Hints)(f:FuncId):Hf:=⟨H.mt f,H.by_⟩
def uY(P:Program)(H:Hints)(f:FuncId)(nb:Nat)(call:oB)(id:Nat)(ops:Array Oper)(dr:Bool)(s:St):Option St:=
  match hY P nb s (H.at_ f nb id)with
  |none=>none
  |some s0=>
    match pK P (H.hf f) call ops ops.toList s0 with
    |some (s',ts)=>if dr then(if ve ops ts then some s' else none)else some s'
    |none=>none
def ow(P:Program)(H:Hints)(f:FuncId)(nb:Nat)(call:oB)(fuel:Nat):Code->St->Option (Ex×St)
  | .skip,s=>some (.normal,s)
  | .region id ops dr,s=>(match uY P H f nb call id ops dr s with|some s'=>some (.normal,s')|none=>none)
  | .seq a b,s=>
    match ow P H f nb call fuel a s with
    |some (.normal,s')=>ow P H f nb call fuel b s'
    |r=>r
  | .cond c a b,s=>
    match s.opd c with
    |some (.d (.bool t))=>if t then ow P H f nb call fuel a s else ow P H f nb call fuel b s
    |_=>none
  | .block id b,s=>
    match ow P H f nb call fuel b s with
    |some (.exit id',s')=>if id'=id then some (.normal,s')else some (.exit id',s')
    |r=>r
  | .loop b,s=>sq (ow P H f nb call fuel b) fuel s
  | .exit id,s=>some (.exit id,s)
  | .ret,s=>some (.ret,s)
  | .scope b,s=>ow P H f nb call fuel b s
  | .label _,s=>some (.normal,s)
  |_,_=>none
def outV(own:Bool)(v:RV):M (RV×Ups):=
  match v with
  | .agg cs=>if own then M.pure (v,[])else M.bind (rK cs) fun(ps,u)=>M.pure (.d (.agg ps),u)
  | .nR=>M.pure (.d (.lst []),[])
  | .ref _ _| .view _ _ _ _=>if own then M.pure (v,[])else M.bind (qu v) fun(p,u)=>M.pure (.d p,u)
  | .tup _=>M.fail
  |v=>M.pure (v,[])
def resV(P:Program)(s:St):ResultVar->M RV
  | .tmp t=>(match s.ou t with|some v=>M.pure v|none=>M.fail)
  | .cell t ty=>M.bind (match s.ou t with|some a=>rp P ty a|none=>M.fail) fun(v,_)=>M.pure v
def resD(P:Program)(own:Nat->Bool)(s:St):Nat->List ResultVar->M (List RV×Ups)
  |_,[]=>M.pure ([],[])
  |i,x::r=>M.bind (resV P s x) fun v=>M.bind (outV (own i) v) fun(y,u)=>M.bind (resD P own s (i+1) r) fun(ys,us)=>M.pure (y::ys,u++us)
def one(l:List RV):RV:=match l with| [v]=>v|l=>.tup l
def vW(nt:Nat):Code->Bool
  | .region _ ops _=>ops.all fun o=>match o.dst with|some d=>decide (d<nt)|none=>true
  | .seq a b| .cond _ a b=>vW nt a&&vW nt b
  | .block _ b| .loop b| .scope b=>vW nt b
  |_=>true
def finish(P:Program)(own:Nat->Bool)(fn:Func)(nb:Nat)(s:St):Option (RV×List Box):=
  match resD P own s 0 fn.results.toList s.boxes with
  |some ((rs,u),_,true)=>
    let b1:=tk s.boxes u
    match M.bind (qp 64 [] (List.range nb++rs.flatMap idsV)) (fun ids=>M.bind (tp ids) fun bxs=>M.pure (ids,bxs)) b1 with
    |some ((ids,bxs),_,true)=>
      if ids.take nb=List.range nb∧nodup ids=true then
        let ρ:Ren:=⟨idxOf ids,oX b1 (oD nb)⟩
        some (qe ρ (one rs),(ids.zip bxs).map fun x=>qj ρ (oD nb x.1) x.2)
      else none
    |_=>none
  |_=>none
def pb(P:Program)(H:Hints)(ext:FuncId->Option oB):Nat->oB
  |0,_,_,_=>none
  |n+1,f,args,bs=>
    match ext f with
    |some g=>g f args bs
    |none=>
      match P.funcs[f]? with
      |some fn=>
        match fn.body with
        |some c=>
          if vW fn.ntmps c && (fn.name != "runtime.NumGoroutine") && decide (args.length ≤ fn.ntmps) && bs.all (fun b => verB b == 0) then
            match ow P H f bs.length (pb P H ext n) n c { ou:=look args,boxes:=look bs }with
            |some (.normal,s)=>finish P (H.own f) fn bs.length s
            |some (.ret,s)=>finish P (H.own f) fn bs.length s
            |_=>none
          else none
        |none=>none
      |none=>none
end Go.Dw
