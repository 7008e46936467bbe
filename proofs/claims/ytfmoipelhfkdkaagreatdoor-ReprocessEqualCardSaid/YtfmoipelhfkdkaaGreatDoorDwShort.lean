
import Derived.Test.YtfmoipelhfkdkaaGreatDoorDwLift4

namespace Go.Dw
section
variable {P:Program}{H:Hints}{ext:FuncId->Option rO}{mt:Hf}{ops:Array Oper}{l:List Oper}{R:List (Nat×RV)}{B:List (Nat×Box)}{K:List (Nat×RV)->List (Nat×Box)->List Tr->Prop}
 {d:Nat} {op:Op} {ty:TypeId} {p:String} {af:Array Edge} {g:Option (Nat×Bool)}
theorem sV(v:RV){rd:List Nat}(h:WO P H ext mt ops l ((d,v)::R) B fun k j ts=>K k j (⟨rd,[]⟩::ts))
  (he:∀n,rN P mt (sI P H ext n) (A R B) ⟨some d,op,ty,p,af,g⟩ (assoc B)=some ((v,[]),rd,true):=by exact fun _=>rfl) (hw:og ops (A R B) ⟨some d,op,ty,p,af,g⟩=some true:=by exact rfl):WO P H ext mt ops (⟨some d,op,ty,p,af,g⟩::l) R B K:=WO.s0 hw rfl he rfl h
theorem sT{rd:List Nat}(h:WO P H ext mt ops l ((d,.d (.bool true))::R) B fun k j ts=>K k j (⟨rd,[]⟩::ts))
  (he:∀n,rN P mt (sI P H ext n) (A R B) ⟨some d,op,ty,p,af,g⟩ (assoc B)=some ((.d (.bool true),[]),rd,true):=by exact fun _=>rfl) (hw:og ops (A R B) ⟨some d,op,ty,p,af,g⟩=some true:=by exact rfl):WO P H ext mt ops (⟨some d,op,ty,p,af,g⟩::l) R B K:=WO.s0 hw rfl he rfl h
theorem sU{rd:List Nat}(h:WO P H ext mt ops l ((d,.d (.bool false))::R) B fun k j ts=>K k j (⟨rd,[]⟩::ts))
  (he:∀n,rN P mt (sI P H ext n) (A R B) ⟨some d,op,ty,p,af,g⟩ (assoc B)=some ((.d (.bool false),[]),rd,true):=by exact fun _=>rfl) (hw:og ops (A R B) ⟨some d,op,ty,p,af,g⟩=some true:=by exact rfl):WO P H ext mt ops (⟨some d,op,ty,p,af,g⟩::l) R B K:=WO.s0 hw rfl he rfl h
theorem oI{α:Type}{x r:α}(h:some x=some r):x=r:=Option.some.inj h
theorem sG(v:RV)(h:WO P H ext mt ops l ((d,v)::R) B fun k j ts=>K k j (⟨[],[]⟩::ts))
  (he:∀n,rN P mt (sI P H ext n) (A R B) ⟨some d,op,ty,p,af,g⟩ (assoc B)=some ((v,[]),[],true):=by intro _;kernel_rfl) (hw:og ops (A R B) ⟨some d,op,ty,p,af,g⟩=some true:=by exact rfl):WO P H ext mt ops (⟨some d,op,ty,p,af,g⟩::l) R B K:=WO.s0 hw rfl he rfl h
theorem sH(id:Nat)(j:Box)(h:WO P H ext mt ops l R ((id,j)::B) fun q k ts=>K q k (⟨[id],[id]⟩::ts))
  (he:∀n,rN P mt (sI P H ext n) (A R B) ⟨none,op,ty,p,af,g⟩ (assoc B)=some ((.undef,[(id,j)]),[id],true):=by intro _;kernel_rfl) (hw:og ops (A R B) ⟨none,op,ty,p,af,g⟩=some true:=by exact rfl):WO P H ext mt ops (⟨none,op,ty,p,af,g⟩::l) R B K:=WO.n1 hw rfl he h
theorem sE(v':RV){v:RV}(q:v=v'){rd:List Nat}(h:WO P H ext mt ops l ((d,v')::R) B fun k j ts=>K k j (⟨rd,[]⟩::ts))
  (he:∀n,rN P mt (sI P H ext n) (A R B) ⟨some d,op,ty,p,af,g⟩ (assoc B)=some ((v,[]),rd,true):=by exact fun _=>rfl) (hw:og ops (A R B) ⟨some d,op,ty,p,af,g⟩=some true:=by exact rfl):WO P H ext mt ops (⟨some d,op,ty,p,af,g⟩::l) R B K:=WO.s0 hw rfl he q h
theorem sM{x:Operand}{v:RV}(q:(A R B).opd x=some v)(h:WO P H ext mt ops l ((d,v)::R) B fun k j ts=>K k j (⟨[],[]⟩::ts))(hw:og ops (A R B) ⟨some d,.move x,ty,p,af,g⟩=some true:=by exact rfl):WO P H ext mt ops (⟨some d,.move x,ty,p,af,g⟩::l) R B K:=
 WO.s0 hw rfl (fun n=>by simp only [rN,q];rfl) rfl h
theorem sA{x:Operand}{v:RV}(q:(A R B).opd x=some v)(h:WO P H ext mt ops l ((d,v)::R) B fun k j ts=>K k j (⟨[],[]⟩::ts))(hw:og ops (A R B) ⟨some d,.assign x,ty,p,af,g⟩=some true:=by exact rfl):WO P H ext mt ops (⟨some d,.assign x,ty,p,af,g⟩::l) R B K:=
 WO.s0 hw rfl (fun n=>by simp only [rN,q];rfl) rfl h
def cellW(P:Program)(t:TypeId)(x:Option RV)(b:Nat->Option Box):Option (Nat×RV):=
 match x with
 | some (.ptr id off) => (match b id with
  | some (.var cs) => (match ug P t with
   |some (false,_)=>(match cs[off]? with|some v=>some (id,v)|none=>none)
   |_=>none)
  |_=>none)
 |_=>none
theorem sL{t:TypeId}{a:Operand}{id:Nat}{v:RV}(hc:cellW P t ((A R B).opd a) (assoc B)=some (id,v))(h:WO P H ext mt ops l ((d,v)::R) B fun k j ts=>K k j (⟨[id],[]⟩::ts))(hw:og ops (A R B) ⟨some d,.load t a,ty,p,af,g⟩=some true:=by exact rfl):WO P H ext mt ops (⟨some d,.load t a,ty,p,af,g⟩::l) R B K:=by
 refine WO.s0 hw rfl (fun m=>?_) rfl h
 unfold cellW at hc
 split at hc
 ·rename_i q
  split at hc
  ·rename_i r
   split at hc
   ·rename_i hk
    split at hc
    ·rename_i u
     cases hc
     simp only [rN,q,uw,M.bind,M.get,r,uH,hk,u];rfl
    ·cases hc
   ·cases hc
  ·cases hc
 ·cases hc
theorem sC{t:TypeId}{a:Operand}{n:Nat}{c:PD}{cs:List PD}(q:(A R B).opd a=some (.cptr (c::cs)))(h:WO P H ext mt ops l ((d,.d c)::R) B fun k j ts=>K k j (⟨[],[]⟩::ts))(hk:ug P t=some (false,n):=by exact rfl)(hw:og ops (A R B) ⟨some d,.load t a,ty,p,af,g⟩=some true:=by exact rfl):WO P H ext mt ops (⟨some d,.load t a,ty,p,af,g⟩::l) R B K:=
 WO.s0 hw rfl (fun m=>by simp only [rN,q,uw,uG,hk];rfl) rfl h
theorem sF{β:Type}{t:Bool}{a b:Option β}{r:β}(hi:(if t=true then a else b)=some r){rd:List Nat}(h1:a=some r->WO P H ext mt ops l ((d,.d (.bool true))::R) B fun k j ts=>K k j (⟨rd,[]⟩::ts))(q:b=some r->WO P H ext mt ops l ((d,.d (.bool false))::R) B fun k j ts=>K k j (⟨rd,[]⟩::ts))
  (he:∀n,rN P mt (sI P H ext n) (A R B) ⟨some d,op,ty,p,af,g⟩ (assoc B)=some ((.d (.bool t),[]),rd,true):=by exact fun _=>rfl) (hw:og ops (A R B) ⟨some d,op,ty,p,af,g⟩=some true:=by exact rfl):WO P H ext mt ops (⟨some d,op,ty,p,af,g⟩::l) R B K:=by
 cases t with
 |true=>exact WO.s0 hw rfl he rfl (h1 hi)
 |false=>exact WO.s0 hw rfl he rfl (q hi)
theorem sK(h:WO P H ext mt ops l ((d,.undef)::R) B fun k j ts=>K k j (⟨[],[]⟩::ts))
  (hw:og ops (A R B) ⟨some d,op,ty,p,af,g⟩=some false:=by exact rfl):WO P H ext mt ops (⟨some d,op,ty,p,af,g⟩::l) R B K:=WO.skip hw rfl h
theorem sB(v:RV)(id:Nat)(j:Box){rd:List Nat}(h:WO P H ext mt ops l ((d,v)::R) ((id,j)::B) fun q k ts=>K q k (⟨rd,[id]⟩::ts))
  (he:∀n,rN P mt (sI P H ext n) (A R B) ⟨some d,op,ty,p,af,g⟩ (assoc B)=some ((v,[(id,j)]),rd,true):=by exact fun _=>rfl) (hw:og ops (A R B) ⟨some d,op,ty,p,af,g⟩=some true:=by exact rfl):WO P H ext mt ops (⟨some d,op,ty,p,af,g⟩::l) R B K:=WO.s1 hw rfl he h
theorem sS(id:Nat)(j:Box){rd:List Nat}(h:WO P H ext mt ops l R ((id,j)::B) fun q k ts=>K q k (⟨rd,[id]⟩::ts))
  (he:∀n,rN P mt (sI P H ext n) (A R B) ⟨none,op,ty,p,af,g⟩ (assoc B)=some ((.undef,[(id,j)]),rd,true):=by exact fun _=>rfl) (hw:og ops (A R B) ⟨none,op,ty,p,af,g⟩=some true:=by exact rfl):WO P H ext mt ops (⟨none,op,ty,p,af,g⟩::l) R B K:=WO.n1 hw rfl he h
theorem sN(h:K R B []):WO P H ext mt ops [] R B K:=WO.nil h
theorem sO{ts:List Tr}{X:Prop}(h:X)(ho:u9 ops ts=true:=by kernel_rfl):u9 ops ts=true∧X:=⟨ho,h⟩
theorem cD{f:FuncId}{args as:List RV}{k:List Nat}{r:RV}{j:List RV}(E:EvP P H ext f j [] (r,[]))(h:WO P H ext mt ops l ((d,r)::R) B fun C q ts=>K C q (⟨k++([]++([]++([]++[]))),[]⟩::ts))
  (he:∀call,rN P mt call (A R B) ⟨some d,op,ty,p,af,g⟩ (assoc B)=uc mt.by_ call f (d*16) args (assoc B):=by exact fun _=>rfl) (D:wi (mt.by_ f) 0 args (assoc B)=some ((as,[]),k,true):=by exact rfl) (F:as.flatMap Ay=[]:=by exact rfl) (has:as.map (tD (uZ [] []))=j:=by exact rfl) (G:tD (xw [] [] []) r=r:=by exact rfl) (hw:og ops (A R B) ⟨some d,op,ty,p,af,g⟩=some true:=by exact rfl):WO P H ext mt ops (⟨some d,op,ty,p,af,g⟩::l) R B K:=
 WO.BS (u:=[]) hw rfl he D (by rw [F];rfl) rfl has rfl E rfl rfl G (ite_self _) h
theorem cR(v:RV)(u:Ups){f:FuncId}{args as:List RV}{ids F G rg C:List Nat}{E:Ups}{j r:List Box}{q:RV×List Box}{k:List RV}(N:EvP P H ext f k r q)(h:WO P H ext mt ops l ((d,v)::R) (xN u B) fun J I ts=>K J I (⟨F++(G++(rg++(C++[]))),u.map (·.1)⟩::ts))
  (he:∀call,rN P mt call (A R B) ⟨some d,op,ty,p,af,g⟩ (assoc B)=uc mt.by_ call f (d*16) args (assoc B):=by exact fun _=>rfl) (L:wi (mt.by_ f) 0 args (assoc B)=some ((as,E),F,true):=by exact rfl) (T:uJ 64 [] (as.flatMap Ay) (assoc B)=some (ids,G,true):=by exact rfl) (O:wY ids (assoc B)=some (j,rg,true):=by exact rfl) (has:as.map (tD (uZ ids j))=k:=by exact rfl) (D:j.map (uB (uZ ids j) fun _=>0)=r:=by exact rfl) (hc:(decide (ids.length<=q.2.length)&&(nodup ids&&Ak ids (E.map (·.1))))=true:=by exact rfl) (hV:tX (tT (d*16) (q.2.length-ids.length)) (assoc B)=some ((),C,true):=by exact rfl) (U:tD (xw (ids++tT (d*16) (q.2.length-ids.length)) j q.2) q.1=v:=by exact rfl) (hu:Ae E ids q.2 q.1 (xu (ids++tT (d*16) (q.2.length-ids.length)) j q.2)=u:=by exact rfl) (hw:og ops (A R B) ⟨some d,op,ty,p,af,g⟩=some true:=by exact rfl):WO P H ext mt ops (⟨some d,op,ty,p,af,g⟩::l) R B K:=
 WO.BS hw rfl he L T O has D N hc hV U hu h
theorem bE{α β:Type}{m:Option α}{k:α->Option β}{r:β}(h:m.bind k=some r){G:Prop}(hk:∀x,m=some x->k x=some r->G):G:=oh h hk
theorem k3{d1:Nat}{r:Op}{D:TypeId}{G:String}{j:Array Edge}{g1:Option (Nat×Bool)}{d2:Nat}{u:Op}{E:TypeId}{I:String}{k:Array Edge}{g2:Option (Nat×Bool)}{d3:Nat}{C:Op}{F:TypeId}{J:String}{q:Array Edge}{g3:Option (Nat×Bool)}(h:WO P H ext mt ops l ((d3,.undef)::(d2,.undef)::(d1,.undef)::R) B fun N L ts=>K N L (⟨[],[]⟩::⟨[],[]⟩::⟨[],[]⟩::ts))
  (h1:og ops (A (R) B) ⟨some d1,r,D,G,j,g1⟩=some false:=by exact rfl) (O:og ops (A ((d1,.undef)::R) B) ⟨some d2,u,E,I,k,g2⟩=some false:=by exact rfl) (T:og ops (A ((d2,.undef)::(d1,.undef)::R) B) ⟨some d3,C,F,J,q,g3⟩=some false:=by exact rfl):WO P H ext mt ops (⟨some d1,r,D,G,j,g1⟩::⟨some d2,u,E,I,k,g2⟩::⟨some d3,C,F,J,q,g3⟩::l) R B K:=sK (sK (sK h T) O) h1
variable {o:Oper}
theorem eG{α:Type}{f:α->PD}{li:List α}{t e:TypeId}{x i:Operand}{k:IntKind}{n:Int}{sz:Nat}{y:α}{cs:List PD}(L:oc li n=some y)
  (j:(og ops (A R B) o,o.dst,o.op,(A R B).opd x,(A R B).opd i,P.underlying t,szT P e,(f y).cells,cs.length)=(some true,some d,.indexAddr t x i,some (.d (.lst (li.map f))),some (.d (.int k n)),some (.slice e),some sz,cs,sz))
  (h:WO P H ext mt ops l ((d,.cptr cs)::R) B fun r q ts=>K r q (⟨[],[]⟩::ts)):WO P H ext mt ops (o::l) R B K:=by
 simp only [Prod.mk.injEq]at j
 obtain⟨h1,u,C,D,E,F,G,I,J⟩:=j
 exact WO.elemG L h1 u C D E F G I J h
theorem aR{α:Type}{f:α->PD}{li m r:List α}{t e:TypeId}{x y:Operand}{c:Call}{id ver sz by_:Nat}{z:Value}(X:rR li m (by_+1)=some r)(D:∀x,(f x).cells.length=sz+1)
  (E : (og ops (A R B) o, o.dst, o.op, c.callee, c.args.toList, c.argTypes, (A R B).opd x, (A R B).opd y, assoc B id, sD P t, szT P e, sP P e, sr P e, z.cells.size) =
   (some true,some d,.call c,.builtin .append,[x,y], #[t,t],some (.ref id ver),some (.d (.lst (m.map f))),some (.arr ver e (li.map f)),some e,some (sz+1),some (by_+1),some z,sz+1))
  (h:WO P H ext mt ops l ((d,.ref id (ver+1))::R) ((id,.arr (ver+1) e (r.map f))::B) fun G F ts=>K G F (⟨[id],[id]⟩::ts)):WO P H ext mt ops (o::l) R B K:=by
 simp only [Prod.mk.injEq]at E
 obtain⟨h1,I,J,L,N,O,T,U,W,j,k,q,u,C⟩:=E
 exact WO.appR X D h1 I J L N O T U W j k q u C h
end
section
variable {P:Program}{H:Hints}{ext:FuncId->Option rO}{f:FuncId}{nb:Nat}{R:List (Nat×RV)}{B:List (Nat×Box)}{Q:Ex->List (Nat×RV)->List (Nat×Box)->Prop}
theorem gS{id:Nat}{ops:Array Oper}{l:List Oper}{R0:List (Nat×RV)}{B0:List (Nat×Box)}{b:Code}(hl:ops.toList=l)(q:rJ P nb (A R B) (H.at_ f nb id)=some (A R0 B0))
  (h:WO P H ext (H.hf f) ops l R0 B0 fun k j _=>WC P H ext f nb b k j Q):WC P H ext f nb (.seq (.region id ops false) b) R B Q:=WC.tu q hl h
theorem cT{c:Operand}{a b:Code}(h1:WC P H ext f nb a R B Q)
  (hc:(A R B).opd c=some (.d (.bool true)):=by exact rfl):WC P H ext f nb (.cond c a b) R B Q:=WC.condT hc h1
theorem cF{c:Operand}{a b:Code}(h1:WC P H ext f nb b R B Q)
  (hc:(A R B).opd c=some (.d (.bool false)):=by exact rfl):WC P H ext f nb (.cond c a b) R B Q:=WC.condF hc h1
theorem qR(h:Q .ret R B):WC P H ext f nb .ret R B Q:=WC.ret h
theorem qK(h:Q .normal R B):WC P H ext f nb .skip R B Q:=WC.skip h
theorem qX{id:Nat}(h:Q (.exit id) R B):WC P H ext f nb (.exit id) R B Q:=WC.exit h
theorem qS{a b:Code}(h:WC P H ext f nb a R B fun e k j=>match e with| .normal=>WC P H ext f nb b k j Q|e=>Q e k j):WC P H ext f nb (.seq a b) R B Q:=WC.seq h
theorem qB{id:Nat}{b:Code}(h:WC P H ext f nb b R B fun e q k=>match e with| .exit j=>(j=id->Q .normal q k)∧(j≠id->Q (.exit j) q k)|e=>Q e q k):WC P H ext f nb (.block id b) R B Q:=WC.block h
theorem qD{own:Nat->Bool}{fn:Func}{r:RV}{j:List Box}{x:RV×List Box}{e:Ex}
  (hf:finish P own fn nb (A R B)=some x:=by exact rfl) (k:x=(r,j):=by exact rfl) (he:(match e with| .exit _=>false|_=>true)=true:=by exact rfl):tZ P own fn nb r j e R B:=WC.done he hf k
theorem qG{own:Nat->Bool}{fn:Func}{r:RV}{j:List Box}{e:Ex}
  (hf:finish P own fn nb (A R B)=some (r,j):=by kernel_rfl) (he:(match e with| .exit _=>false|_=>true)=true:=by exact rfl):tZ P own fn nb r j e R B:=WC.done he hf rfl
theorem qE{α:Type}{x:α}{X Y:Prop}(h:X):(x=x->X)∧(x≠x->Y):=⟨fun _=>h,fun j=>(j rfl).elim⟩
end
end Go.Dw
