
import Derived.Test.YtgdhcacjeppglaaGreatDwLift4

namespace Go.Dw
section
variable {P:Program}{H:Hints}{ext:FuncId->Option cB}{mt:Hf}{ops:Array Oper}{l:List Oper}{R:List (Nat×RV)}{B:List (Nat×Box)}{K:List (Nat×RV)->List (Nat×Box)->List Tr->Prop}
 {d:Nat} {op:Op} {ty:TypeId} {p:String} {af:Array Edge} {g:Option (Nat×Bool)}
theorem sV(v:RV){rd:List Nat}(h:WO P H ext mt ops l ((d,v)::R) B fun b a ts=>K b a (⟨rd,[]⟩::ts))
  (he:∀n,cX P mt (c7 P H ext n) (A R B) ⟨some d,op,ty,p,af,g⟩ (assoc B)=some ((v,[]),rd,true):=by exact fun _=>rfl) (hw:cu ops (A R B) ⟨some d,op,ty,p,af,g⟩=some true:=by exact rfl):WO P H ext mt ops (⟨some d,op,ty,p,af,g⟩::l) R B K:=WO.s0 hw rfl he rfl h
theorem sT{rd:List Nat}(h:WO P H ext mt ops l ((d,.d (.bool true))::R) B fun b a ts=>K b a (⟨rd,[]⟩::ts))
  (he:∀n,cX P mt (c7 P H ext n) (A R B) ⟨some d,op,ty,p,af,g⟩ (assoc B)=some ((.d (.bool true),[]),rd,true):=by exact fun _=>rfl) (hw:cu ops (A R B) ⟨some d,op,ty,p,af,g⟩=some true:=by exact rfl):WO P H ext mt ops (⟨some d,op,ty,p,af,g⟩::l) R B K:=WO.s0 hw rfl he rfl h
theorem sU{rd:List Nat}(h:WO P H ext mt ops l ((d,.d (.bool false))::R) B fun b a ts=>K b a (⟨rd,[]⟩::ts))
  (he:∀n,cX P mt (c7 P H ext n) (A R B) ⟨some d,op,ty,p,af,g⟩ (assoc B)=some ((.d (.bool false),[]),rd,true):=by exact fun _=>rfl) (hw:cu ops (A R B) ⟨some d,op,ty,p,af,g⟩=some true:=by exact rfl):WO P H ext mt ops (⟨some d,op,ty,p,af,g⟩::l) R B K:=WO.s0 hw rfl he rfl h
theorem oI{α:Type}{x r:α}(h:some x=some r):x=r:=Option.some.inj h
theorem sG(v:RV)(h:WO P H ext mt ops l ((d,v)::R) B fun b a ts=>K b a (⟨[],[]⟩::ts))
  (he:∀n,cX P mt (c7 P H ext n) (A R B) ⟨some d,op,ty,p,af,g⟩ (assoc B)=some ((v,[]),[],true):=by intro _;kernel_rfl) (hw:cu ops (A R B) ⟨some d,op,ty,p,af,g⟩=some true:=by exact rfl):WO P H ext mt ops (⟨some d,op,ty,p,af,g⟩::l) R B K:=WO.s0 hw rfl he rfl h
theorem sH(id:Nat)(a:Box)(h:WO P H ext mt ops l R ((id,a)::B) fun c b ts=>K c b (⟨[id],[id]⟩::ts))
  (he:∀n,cX P mt (c7 P H ext n) (A R B) ⟨none,op,ty,p,af,g⟩ (assoc B)=some ((.undef,[(id,a)]),[id],true):=by intro _;kernel_rfl) (hw:cu ops (A R B) ⟨none,op,ty,p,af,g⟩=some true:=by exact rfl):WO P H ext mt ops (⟨none,op,ty,p,af,g⟩::l) R B K:=WO.n1 hw rfl he h
theorem sE(v':RV){v:RV}(c:v=v'){rd:List Nat}(h:WO P H ext mt ops l ((d,v')::R) B fun b a ts=>K b a (⟨rd,[]⟩::ts))
  (he:∀n,cX P mt (c7 P H ext n) (A R B) ⟨some d,op,ty,p,af,g⟩ (assoc B)=some ((v,[]),rd,true):=by exact fun _=>rfl) (hw:cu ops (A R B) ⟨some d,op,ty,p,af,g⟩=some true:=by exact rfl):WO P H ext mt ops (⟨some d,op,ty,p,af,g⟩::l) R B K:=WO.s0 hw rfl he c h
theorem sM{x:Operand}{v:RV}(c:(A R B).opd x=some v)(h:WO P H ext mt ops l ((d,v)::R) B fun b a ts=>K b a (⟨[],[]⟩::ts))(hw:cu ops (A R B) ⟨some d,.move x,ty,p,af,g⟩=some true:=by exact rfl):WO P H ext mt ops (⟨some d,.move x,ty,p,af,g⟩::l) R B K:=
 WO.s0 hw rfl (fun n=>by simp only [cX,c];rfl) rfl h
theorem sA{x:Operand}{v:RV}(c:(A R B).opd x=some v)(h:WO P H ext mt ops l ((d,v)::R) B fun b a ts=>K b a (⟨[],[]⟩::ts))(hw:cu ops (A R B) ⟨some d,.assign x,ty,p,af,g⟩=some true:=by exact rfl):WO P H ext mt ops (⟨some d,.assign x,ty,p,af,g⟩::l) R B K:=
 WO.s0 hw rfl (fun n=>by simp only [cX,c];rfl) rfl h
def cellW(P:Program)(t:TypeId)(x:Option RV)(b:Nat->Option Box):Option (Nat×RV):=
 match x with
 | some (.ptr id off) => (match b id with
  | some (.var cs) => (match dQ P t with
   |some (false,_)=>(match cs[off]? with|some v=>some (id,v)|none=>none)
   |_=>none)
  |_=>none)
 |_=>none
theorem sL{t:TypeId}{a:Operand}{id:Nat}{v:RV}(hc:cellW P t ((A R B).opd a) (assoc B)=some (id,v))(h:WO P H ext mt ops l ((d,v)::R) B fun c b ts=>K c b (⟨[id],[]⟩::ts))(hw:cu ops (A R B) ⟨some d,.load t a,ty,p,af,g⟩=some true:=by exact rfl):WO P H ext mt ops (⟨some d,.load t a,ty,p,af,g⟩::l) R B K:=by
 refine WO.s0 hw rfl (fun m=>?_) rfl h
 unfold cellW at hc
 split at hc
 ·rename_i e
  split at hc
  ·rename_i hb
   split at hc
   ·rename_i hk
    split at hc
    ·rename_i i
     cases hc
     simp only [cX,e,e7,M.bind,M.get,hb,er,hk,i];rfl
    ·cases hc
   ·cases hc
  ·cases hc
 ·cases hc
theorem sC{t:TypeId}{a:Operand}{n:Nat}{c:PD}{cs:List PD}(i:(A R B).opd a=some (.cptr (c::cs)))(h:WO P H ext mt ops l ((d,.d c)::R) B fun e b ts=>K e b (⟨[],[]⟩::ts))(hk:dQ P t=some (false,n):=by exact rfl)(hw:cu ops (A R B) ⟨some d,.load t a,ty,p,af,g⟩=some true:=by exact rfl):WO P H ext mt ops (⟨some d,.load t a,ty,p,af,g⟩::l) R B K:=
 WO.s0 hw rfl (fun m=>by simp only [cX,i,e7,ep,hk];rfl) rfl h
theorem sF{β:Type}{t:Bool}{a b:Option β}{r:β}(i:(if t=true then a else b)=some r){rd:List Nat}(h1:a=some r->WO P H ext mt ops l ((d,.d (.bool true))::R) B fun e c ts=>K e c (⟨rd,[]⟩::ts))(j:b=some r->WO P H ext mt ops l ((d,.d (.bool false))::R) B fun e c ts=>K e c (⟨rd,[]⟩::ts))
  (he:∀n,cX P mt (c7 P H ext n) (A R B) ⟨some d,op,ty,p,af,g⟩ (assoc B)=some ((.d (.bool t),[]),rd,true):=by exact fun _=>rfl) (hw:cu ops (A R B) ⟨some d,op,ty,p,af,g⟩=some true:=by exact rfl):WO P H ext mt ops (⟨some d,op,ty,p,af,g⟩::l) R B K:=by
 cases t with
 |true=>exact WO.s0 hw rfl he rfl (h1 i)
 |false=>exact WO.s0 hw rfl he rfl (j i)
theorem sK(h:WO P H ext mt ops l ((d,.undef)::R) B fun b a ts=>K b a (⟨[],[]⟩::ts))
  (hw:cu ops (A R B) ⟨some d,op,ty,p,af,g⟩=some false:=by exact rfl):WO P H ext mt ops (⟨some d,op,ty,p,af,g⟩::l) R B K:=WO.skip hw rfl h
theorem sB(v:RV)(id:Nat)(a:Box){rd:List Nat}(h:WO P H ext mt ops l ((d,v)::R) ((id,a)::B) fun c b ts=>K c b (⟨rd,[id]⟩::ts))
  (he:∀n,cX P mt (c7 P H ext n) (A R B) ⟨some d,op,ty,p,af,g⟩ (assoc B)=some ((v,[(id,a)]),rd,true):=by exact fun _=>rfl) (hw:cu ops (A R B) ⟨some d,op,ty,p,af,g⟩=some true:=by exact rfl):WO P H ext mt ops (⟨some d,op,ty,p,af,g⟩::l) R B K:=WO.s1 hw rfl he h
theorem sS(id:Nat)(a:Box){rd:List Nat}(h:WO P H ext mt ops l R ((id,a)::B) fun c b ts=>K c b (⟨rd,[id]⟩::ts))
  (he:∀n,cX P mt (c7 P H ext n) (A R B) ⟨none,op,ty,p,af,g⟩ (assoc B)=some ((.undef,[(id,a)]),rd,true):=by exact fun _=>rfl) (hw:cu ops (A R B) ⟨none,op,ty,p,af,g⟩=some true:=by exact rfl):WO P H ext mt ops (⟨none,op,ty,p,af,g⟩::l) R B K:=WO.n1 hw rfl he h
theorem sN(h:K R B []):WO P H ext mt ops [] R B K:=WO.nil h
theorem sO{ts:List Tr}{X:Prop}(h:X)(ho:iR ops ts=true:=by kernel_rfl):iR ops ts=true∧X:=⟨ho,h⟩
theorem cD{f:FuncId}{args as:List RV}{b:List Nat}{r:RV}{a:List RV}(j:EvP P H ext f a [] (r,[]))(h:WO P H ext mt ops l ((d,r)::R) B fun e c ts=>K e c (⟨b++([]++([]++([]++[]))),[]⟩::ts))
  (he:∀call,cX P mt call (A R B) ⟨some d,op,ty,p,af,g⟩ (assoc B)=iG (mt.lit (d+2097152)) mt.by_ call f (d*16) args (assoc B):=by exact fun _=>rfl) (n:mt.lit (d+2097152)=false:=by exact rfl) (i:hT (mt.by_ f) 0 args (assoc B)=some ((as,[]),b,true):=by exact rfl) (k:as.flatMap idsV=[]:=by exact rfl) (has:as.map (dw (gB [] []))=a:=by exact rfl) (m:dw (kA [] [] []) r=r:=by exact rfl) (hw:cu ops (A R B) ⟨some d,op,ty,p,af,g⟩=some true:=by exact rfl):WO P H ext mt ops (⟨some d,op,ty,p,af,g⟩::l) R B K:=
 WO.kW (u:=[]) hw rfl he i (by rw [k];rfl) rfl has rfl j rfl rfl m (ite_self _) h n
theorem cR(v:RV)(u:Ups){f:FuncId}{args as:List RV}{ids k m rg e:List Nat}{j:Ups}{a c:List Box}{q:RV×List Box}{b:List RV}(t:EvP P H ext f b c q)(h:WO P H ext mt ops l ((d,v)::R) (kJ u B) fun r n ts=>K r n (⟨k++(m++(rg++(e++[]))),u.map (·.1)⟩::ts))
  (he:∀call,cX P mt call (A R B) ⟨some d,op,ty,p,af,g⟩ (assoc B)=iG (mt.lit (d+2097152)) mt.by_ call f (d*16) args (assoc B):=by exact fun _=>rfl) (C:mt.lit (d+2097152)=false:=by exact rfl) (s:hT (mt.by_ f) 0 args (assoc B)=some ((as,j),k,true):=by exact rfl) (y:eV 64 [] (as.flatMap idsV) (assoc B)=some (ids,m,true):=by exact rfl) (x:hY ids (assoc B)=some (a,rg,true):=by exact rfl) (has:as.map (dw (gB ids a))=b:=by exact rfl) (i:a.map (ez (gB ids a) fun _=>0)=c:=by exact rfl) (hc:(decide (ids.length<=q.2.length)&&(nodup ids&&disj ids (j.map (·.1))))=true:=by exact rfl) (hV:ew (fr (d*16) (q.2.length-ids.length)) (assoc B)=some ((),e,true):=by exact rfl) (z:dw (kA (ids++fr (d*16) (q.2.length-ids.length)) a q.2) q.1=v:=by exact rfl) (hu:mi j ids q.2 q.1 (kz (ids++fr (d*16) (q.2.length-ids.length)) a q.2)=u:=by exact rfl) (hw:cu ops (A R B) ⟨some d,op,ty,p,af,g⟩=some true:=by exact rfl):WO P H ext mt ops (⟨some d,op,ty,p,af,g⟩::l) R B K:=
 WO.kW hw rfl he s y x has i t hc hV z hu h C
theorem bE{α β:Type}{m:Option α}{k:α->Option β}{r:β}(h:m.bind k=some r){G:Prop}(hk:∀x,m=some x->k x=some r->G):G:=oa h hk
theorem k3{d1:Nat}{e:Op}{k:TypeId}{q:String}{a:Array Edge}{g1:Option (Nat×Bool)}{d2:Nat}{i:Op}{m:TypeId}{r:String}{b:Array Edge}{g2:Option (Nat×Bool)}{d3:Nat}{j:Op}{n:TypeId}{s:String}{c:Array Edge}{g3:Option (Nat×Bool)}(h:WO P H ext mt ops l ((d3,.undef)::(d2,.undef)::(d1,.undef)::R) B fun u t ts=>K u t (⟨[],[]⟩::⟨[],[]⟩::⟨[],[]⟩::ts))
  (h1:cu ops (A (R) B) ⟨some d1,e,k,q,a,g1⟩=some false:=by exact rfl) (v:cu ops (A ((d1,.undef)::R) B) ⟨some d2,i,m,r,b,g2⟩=some false:=by exact rfl) (x:cu ops (A ((d2,.undef)::(d1,.undef)::R) B) ⟨some d3,j,n,s,c,g3⟩=some false:=by exact rfl):WO P H ext mt ops (⟨some d1,e,k,q,a,g1⟩::⟨some d2,i,m,r,b,g2⟩::⟨some d3,j,n,s,c,g3⟩::l) R B K:=sK (sK (sK h x) v) h1
variable {o:Oper}
theorem eG{α:Type}{f:α->PD}{li:List α}{t e:TypeId}{x i:Operand}{k:IntKind}{n:Int}{sz:Nat}{y:α}{cs:List PD}(C:e8 li n=some y)
  (a:(cu ops (A R B) o,o.dst,o.op,(A R B).opd x,(A R B).opd i,P.underlying t,szT P e,(f y).cells,cs.length)=(some true,some d,.indexAddr t x i,some (.d (.lst (li.map f))),some (.d (.int k n)),some (.slice e),some sz,cs,sz))
  (h:WO P H ext mt ops l ((d,.cptr cs)::R) B fun c b ts=>K c b (⟨[],[]⟩::ts)):WO P H ext mt ops (o::l) R B K:=by
 simp only [Prod.mk.injEq]at a
 obtain⟨h1,j,m,q,r,s,u,v,z⟩:=a
 exact WO.elemG C h1 j m q r s u v z h
theorem aR{α:Type}{f:α->PD}{li m r:List α}{t e:TypeId}{x y:Operand}{c:Call}{id ver sz by_:Nat}{z:Value}(J:gJ li m (by_+1)=some r)(hsz:∀x,(f x).cells.length=sz+1)
  (n : (cu ops (A R B) o, o.dst, o.op, c.callee, c.args.toList, c.argTypes, (A R B).opd x, (A R B).opd y, assoc B id, dm P t, szT P e, dV P e, df P e, z.cells.size) =
   (some true,some d,.call c,.builtin .append,[x,y], #[t,t],some (.ref id ver),some (.d (.lst (m.map f))),some (.arr ver e (li.map f)),some e,some (sz+1),some (by_+1),some z,sz+1))
  (h:WO P H ext mt ops l ((d,.ref id (ver+1))::R) ((id,.arr (ver+1) e (r.map f))::B) fun s q ts=>K s q (⟨[id],[id]⟩::ts)):WO P H ext mt ops (o::l) R B K:=by
 simp only [Prod.mk.injEq]at n
 obtain⟨h1,u,v,C,D,E,F,G,I,a,b,i,j,k⟩:=n
 exact WO.appR J hsz h1 u v C D E F G I a b i j k h
end
section
variable {P:Program}{H:Hints}{ext:FuncId->Option cB}{f:FuncId}{nb:Nat}{R:List (Nat×RV)}{B:List (Nat×Box)}{Q:Ex->List (Nat×RV)->List (Nat×Box)->Prop}
theorem gS{id:Nat}{ops:Array Oper}{l:List Oper}{a:List (Nat×RV)}{B0:List (Nat×Box)}{b:Code}(hl:ops.toList=l)(i:dY P nb (A R B) (H.at_ f nb id)=some (A a B0))
  (h:WO P H ext (H.hf f) ops l a B0 fun e c _=>WC P H ext f nb b e c Q):WC P H ext f nb (.seq (.region id ops false) b) R B Q:=WC.ov i hl h
theorem cT{c:Operand}{a b:Code}(h1:WC P H ext f nb a R B Q)
  (hc:(A R B).opd c=some (.d (.bool true)):=by exact rfl):WC P H ext f nb (.cond c a b) R B Q:=WC.condT hc h1
theorem cF{c:Operand}{a b:Code}(h1:WC P H ext f nb b R B Q)
  (hc:(A R B).opd c=some (.d (.bool false)):=by exact rfl):WC P H ext f nb (.cond c a b) R B Q:=WC.condF hc h1
theorem qR(h:Q .ret R B):WC P H ext f nb .ret R B Q:=WC.ret h
theorem qK(h:Q .normal R B):WC P H ext f nb .skip R B Q:=WC.skip h
theorem qX{id:Nat}(h:Q (.exit id) R B):WC P H ext f nb (.exit id) R B Q:=WC.exit h
theorem qS{a b:Code}(h:WC P H ext f nb a R B fun e i c=>match e with| .normal=>WC P H ext f nb b i c Q|e=>Q e i c):WC P H ext f nb (.seq a b) R B Q:=WC.seq h
theorem qB{id:Nat}{b:Code}(h:WC P H ext f nb b R B fun e i c=>match e with| .exit a=>(a=id->Q .normal i c)∧(a≠id->Q (.exit a) i c)|e=>Q e i c):WC P H ext f nb (.block id b) R B Q:=WC.block h
theorem qD{own:Nat->Bool}{fn:Func}{r:RV}{a:List Box}{x:RV×List Box}{e:Ex}
  (hf:finish P own fn nb (A R B)=some x:=by exact rfl) (b:x=(r,a):=by exact rfl) (he:(match e with| .exit _=>false|_=>true)=true:=by exact rfl):Done P own fn nb r a e R B:=WC.done he hf b
theorem qG{own:Nat->Bool}{fn:Func}{r:RV}{a:List Box}{e:Ex}
  (hf:finish P own fn nb (A R B)=some (r,a):=by kernel_rfl) (he:(match e with| .exit _=>false|_=>true)=true:=by exact rfl):Done P own fn nb r a e R B:=WC.done he hf rfl
theorem qE{α:Type}{x:α}{X Y:Prop}(h:X):(x=x->X)∧(x≠x->Y):=⟨fun _=>h,fun a=>(a rfl).elim⟩
end
end Go.Dw
