
import Derived.Test.YthkfkgoddhehcaaGreatDwLift4

namespace Go.Dw
section
variable {P:Program}{H:Hints}{ext:FuncId->Option tI}{mt:Hf}{ops:Array Oper}{l:List Oper}{R:List (Nat×RV)}{B:List (Nat×Box)}{K:List (Nat×RV)->List (Nat×Box)->List Tr->Prop}
 {d:Nat} {op:Op} {ty:TypeId} {p:String} {af:Array Edge} {g:Option (Nat×Bool)}
theorem sV(v:RV){rd:List Nat}(h:WO P H ext mt ops l ((d,v)::R) B λc a ts=>K c a (⟨rd,[]⟩::ts))
  (he:∀n,tP P mt (ub P H ext n) (A R B) ⟨some d,op,ty,p,af,g⟩ (assoc B)=some ((v,[]),rd,true):=by exact λ_=>rfl) (hw:tz ops (A R B) ⟨some d,op,ty,p,af,g⟩=some true:=by exact rfl):WO P H ext mt ops (⟨some d,op,ty,p,af,g⟩::l) R B K:=WO.s0 hw rfl he rfl h
theorem sT{rd:List Nat}(h:WO P H ext mt ops l ((d,.d (.bool true))::R) B λc a ts=>K c a (⟨rd,[]⟩::ts))
  (he:∀n,tP P mt (ub P H ext n) (A R B) ⟨some d,op,ty,p,af,g⟩ (assoc B)=some ((.d (.bool true),[]),rd,true):=by exact λ_=>rfl) (hw:tz ops (A R B) ⟨some d,op,ty,p,af,g⟩=some true:=by exact rfl):WO P H ext mt ops (⟨some d,op,ty,p,af,g⟩::l) R B K:=WO.s0 hw rfl he rfl h
theorem sU{rd:List Nat}(h:WO P H ext mt ops l ((d,.d (.bool false))::R) B λc a ts=>K c a (⟨rd,[]⟩::ts))
  (he:∀n,tP P mt (ub P H ext n) (A R B) ⟨some d,op,ty,p,af,g⟩ (assoc B)=some ((.d (.bool false),[]),rd,true):=by exact λ_=>rfl) (hw:tz ops (A R B) ⟨some d,op,ty,p,af,g⟩=some true:=by exact rfl):WO P H ext mt ops (⟨some d,op,ty,p,af,g⟩::l) R B K:=WO.s0 hw rfl he rfl h
theorem oI{α:Type}{x r:α}(h:some x=some r):x=r:=Option.some.inj h
theorem sG(v:RV)(h:WO P H ext mt ops l ((d,v)::R) B λc a ts=>K c a (⟨[],[]⟩::ts))
  (he:∀n,tP P mt (ub P H ext n) (A R B) ⟨some d,op,ty,p,af,g⟩ (assoc B)=some ((v,[]),[],true):=by intro _;kernel_rfl) (hw:tz ops (A R B) ⟨some d,op,ty,p,af,g⟩=some true:=by exact rfl):WO P H ext mt ops (⟨some d,op,ty,p,af,g⟩::l) R B K:=WO.s0 hw rfl he rfl h
theorem sH(id:Nat)(a:Box)(h:WO P H ext mt ops l R ((id,a)::B) λj c ts=>K j c (⟨[id],[id]⟩::ts))
  (he:∀n,tP P mt (ub P H ext n) (A R B) ⟨none,op,ty,p,af,g⟩ (assoc B)=some ((.undef,[(id,a)]),[id],true):=by intro _;kernel_rfl) (hw:tz ops (A R B) ⟨none,op,ty,p,af,g⟩=some true:=by exact rfl):WO P H ext mt ops (⟨none,op,ty,p,af,g⟩::l) R B K:=WO.n1 hw rfl he h
theorem sE(v':RV){v:RV}(j:v=v'){rd:List Nat}(h:WO P H ext mt ops l ((d,v')::R) B λc a ts=>K c a (⟨rd,[]⟩::ts))
  (he:∀n,tP P mt (ub P H ext n) (A R B) ⟨some d,op,ty,p,af,g⟩ (assoc B)=some ((v,[]),rd,true):=by exact λ_=>rfl) (hw:tz ops (A R B) ⟨some d,op,ty,p,af,g⟩=some true:=by exact rfl):WO P H ext mt ops (⟨some d,op,ty,p,af,g⟩::l) R B K:=WO.s0 hw rfl he j h
theorem sM{x:Operand}{v:RV}(j:(A R B).opd x=some v)(h:WO P H ext mt ops l ((d,v)::R) B λc a ts=>K c a (⟨[],[]⟩::ts))(hw:tz ops (A R B) ⟨some d,.move x,ty,p,af,g⟩=some true:=by exact rfl):WO P H ext mt ops (⟨some d,.move x,ty,p,af,g⟩::l) R B K:=
 WO.s0 hw rfl (λn=>by simp only [tP,j];rfl) rfl h
theorem sA{x:Operand}{v:RV}(j:(A R B).opd x=some v)(h:WO P H ext mt ops l ((d,v)::R) B λc a ts=>K c a (⟨[],[]⟩::ts))(hw:tz ops (A R B) ⟨some d,.assign x,ty,p,af,g⟩=some true:=by exact rfl):WO P H ext mt ops (⟨some d,.assign x,ty,p,af,g⟩::l) R B K:=
 WO.s0 hw rfl (λn=>by simp only [tP,j];rfl) rfl h
def cellW(P:Program)(t:TypeId)(x:Option RV)(b:Nat->Option Box):Option (Nat×RV):=
 match x with
 | some (.ptr id off) => (match b id with
  | some (.var cs) => (match wy P t with
   |some (false,_)=>(match cs[off]? with|some v=>some (id,v)|none=>none)
   |_=>none)
  |_=>none)
 |_=>none
theorem sL{t:TypeId}{a:Operand}{id:Nat}{v:RV}(hc:cellW P t ((A R B).opd a) (assoc B)=some (id,v))(h:WO P H ext mt ops l ((d,v)::R) B λj c ts=>K j c (⟨[id],[]⟩::ts))(hw:tz ops (A R B) ⟨some d,.load t a,ty,p,af,g⟩=some true:=by exact rfl):WO P H ext mt ops (⟨some d,.load t a,ty,p,af,g⟩::l) R B K:=by
 refine WO.s0 hw rfl (λm=>?_) rfl h
 unfold cellW at hc
 split at hc
 ·rename_i k
  split at hc
  ·rename_i q
   split at hc
   ·rename_i hk
    split at hc
    ·rename_i r
     cases hc
     simp only [tP,k,wg,M.bind,M.get,q,wk,hk,r];rfl
    ·cases hc
   ·cases hc
  ·cases hc
 ·cases hc
theorem sC{t:TypeId}{a:Operand}{n:Nat}{c:PD}{cs:List PD}(q:(A R B).opd a=some (.cptr (c::cs)))(h:WO P H ext mt ops l ((d,.d c)::R) B λk j ts=>K k j (⟨[],[]⟩::ts))(hk:wy P t=some (false,n):=by exact rfl)(hw:tz ops (A R B) ⟨some d,.load t a,ty,p,af,g⟩=some true:=by exact rfl):WO P H ext mt ops (⟨some d,.load t a,ty,p,af,g⟩::l) R B K:=
 WO.s0 hw rfl (λm=>by simp only [tP,q,wg,wC,hk];rfl) rfl h
theorem sF{β:Type}{t:Bool}{a b:Option β}{r:β}(hi:(if t=true then a else b)=some r){rd:List Nat}(h1:a=some r->WO P H ext mt ops l ((d,.d (.bool true))::R) B λj c ts=>K j c (⟨rd,[]⟩::ts))(k:b=some r->WO P H ext mt ops l ((d,.d (.bool false))::R) B λj c ts=>K j c (⟨rd,[]⟩::ts))
  (he:∀n,tP P mt (ub P H ext n) (A R B) ⟨some d,op,ty,p,af,g⟩ (assoc B)=some ((.d (.bool t),[]),rd,true):=by exact λ_=>rfl) (hw:tz ops (A R B) ⟨some d,op,ty,p,af,g⟩=some true:=by exact rfl):WO P H ext mt ops (⟨some d,op,ty,p,af,g⟩::l) R B K:=by
 cases t with
 |true=>exact WO.s0 hw rfl he rfl (h1 hi)
 |false=>exact WO.s0 hw rfl he rfl (k hi)
theorem sK(h:WO P H ext mt ops l ((d,.undef)::R) B λc a ts=>K c a (⟨[],[]⟩::ts))
  (hw:tz ops (A R B) ⟨some d,op,ty,p,af,g⟩=some false:=by exact rfl):WO P H ext mt ops (⟨some d,op,ty,p,af,g⟩::l) R B K:=WO.skip hw rfl h
theorem sB(v:RV)(id:Nat)(a:Box){rd:List Nat}(h:WO P H ext mt ops l ((d,v)::R) ((id,a)::B) λj c ts=>K j c (⟨rd,[id]⟩::ts))
  (he:∀n,tP P mt (ub P H ext n) (A R B) ⟨some d,op,ty,p,af,g⟩ (assoc B)=some ((v,[(id,a)]),rd,true):=by exact λ_=>rfl) (hw:tz ops (A R B) ⟨some d,op,ty,p,af,g⟩=some true:=by exact rfl):WO P H ext mt ops (⟨some d,op,ty,p,af,g⟩::l) R B K:=WO.s1 hw rfl he h
theorem sS(id:Nat)(a:Box){rd:List Nat}(h:WO P H ext mt ops l R ((id,a)::B) λj c ts=>K j c (⟨rd,[id]⟩::ts))
  (he:∀n,tP P mt (ub P H ext n) (A R B) ⟨none,op,ty,p,af,g⟩ (assoc B)=some ((.undef,[(id,a)]),rd,true):=by exact λ_=>rfl) (hw:tz ops (A R B) ⟨none,op,ty,p,af,g⟩=some true:=by exact rfl):WO P H ext mt ops (⟨none,op,ty,p,af,g⟩::l) R B K:=WO.n1 hw rfl he h
theorem sN(h:K R B []):WO P H ext mt ops [] R B K:=WO.nil h
theorem sO{ts:List Tr}{X:Prop}(h:X)(ho:wM ops ts=true:=by kernel_rfl):wM ops ts=true∧X:=⟨ho,h⟩
theorem cD{f:FuncId}{args as:List RV}{c:List Nat}{r:RV}{a:List RV}(t:EvP P H ext f a [] (r,[]))(h:WO P H ext mt ops l ((d,r)::R) B λk j ts=>K k j (⟨c++([]++([]++([]++[]))),[]⟩::ts))
  (he:∀call,tP P mt call (A R B) ⟨some d,op,ty,p,af,g⟩ (assoc B)=vA mt.by_ call f (d*16) args (assoc B):=by exact λ_=>rfl) (q:xx (mt.by_ f) 0 args (assoc B)=some ((as,[]),c,true):=by exact rfl) (x:as.flatMap Br=[]:=by exact rfl) (has:as.map (uZ (wL [] []))=a:=by exact rfl) (y:uZ (yD [] [] []) r=r:=by exact rfl) (hw:tz ops (A R B) ⟨some d,op,ty,p,af,g⟩=some true:=by exact rfl):WO P H ext mt ops (⟨some d,op,ty,p,af,g⟩::l) R B K:=
 WO.CG (u:=[]) hw rfl he q (by rw [x];rfl) rfl has rfl t rfl rfl y (ite_self _) h
theorem cR(v:RV)(u:Ups){f:FuncId}{args as:List RV}{ids t x rg k:List Nat}{u0:Ups}{a j:List Box}{q:RV×List Box}{c:List RV}(D:EvP P H ext f c j q)(h:WO P H ext mt ops l ((d,v)::R) (zI u B) λz y ts=>K z y (⟨t++(x++(rg++(k++[]))),u.map (·.1)⟩::ts))
  (he:∀call,tP P mt call (A R B) ⟨some d,op,ty,p,af,g⟩ (assoc B)=vA mt.by_ call f (d*16) args (assoc B):=by exact λ_=>rfl) (C:xx (mt.by_ f) 0 args (assoc B)=some ((as,u0),t,true):=by exact rfl) (F:vT 64 [] (as.flatMap Br) (assoc B)=some (ids,x,true):=by exact rfl) (E:xB ids (assoc B)=some (a,rg,true):=by exact rfl) (has:as.map (uZ (wL ids a))=c:=by exact rfl) (r:a.map (vU (wL ids a) λ_=>0)=j:=by exact rfl) (hc:(decide (ids.length<=q.2.length)&&(nodup ids&&Bj ids (u0.map (·.1))))=true:=by exact rfl) (hV:vr (vn (d*16) (q.2.length-ids.length)) (assoc B)=some ((),k,true):=by exact rfl) (G:uZ (yD (ids++vn (d*16) (q.2.length-ids.length)) a q.2) q.1=v:=by exact rfl) (hu:Bd u0 ids q.2 q.1 (yC (ids++vn (d*16) (q.2.length-ids.length)) a q.2)=u:=by exact rfl) (hw:tz ops (A R B) ⟨some d,op,ty,p,af,g⟩=some true:=by exact rfl):WO P H ext mt ops (⟨some d,op,ty,p,af,g⟩::l) R B K:=
 WO.CG hw rfl he C F E has r D hc hV G hu h
theorem bE{α β:Type}{m:Option α}{k:α->Option β}{r:β}(h:m.bind k=some r){G:Prop}(hk:∀x,m=some x->k x=some r->G):G:=tF h hk
theorem k3{d1:Nat}{k:Op}{t:TypeId}{y:String}{a:Array Edge}{g1:Option (Nat×Bool)}{d2:Nat}{q:Op}{u:TypeId}{z:String}{c:Array Edge}{g2:Option (Nat×Bool)}{d3:Nat}{r:Op}{x:TypeId}{C:String}{j:Array Edge}{g3:Option (Nat×Bool)}(h:WO P H ext mt ops l ((d3,.undef)::(d2,.undef)::(d1,.undef)::R) B λE D ts=>K E D (⟨[],[]⟩::⟨[],[]⟩::⟨[],[]⟩::ts))
  (h1:tz ops (A (R) B) ⟨some d1,k,t,y,a,g1⟩=some false:=by exact rfl) (F:tz ops (A ((d1,.undef)::R) B) ⟨some d2,q,u,z,c,g2⟩=some false:=by exact rfl) (G:tz ops (A ((d2,.undef)::(d1,.undef)::R) B) ⟨some d3,r,x,C,j,g3⟩=some false:=by exact rfl):WO P H ext mt ops (⟨some d1,k,t,y,a,g1⟩::⟨some d2,q,u,z,c,g2⟩::⟨some d3,r,x,C,j,g3⟩::l) R B K:=sK (sK (sK h G) F) h1
variable {o:Oper}
theorem eG{α:Type}{f:α->PD}{li:List α}{t e:TypeId}{x i:Operand}{k:IntKind}{n:Int}{sz:Nat}{y:α}{cs:List PD}(G:py li n=some y)
  (a:(tz ops (A R B) o,o.dst,o.op,(A R B).opd x,(A R B).opd i,P.underlying t,szT P e,(f y).cells,cs.length)=(some true,some d,.indexAddr t x i,some (.d (.lst (li.map f))),some (.d (.int k n)),some (.slice e),some sz,cs,sz))
  (h:WO P H ext mt ops l ((d,.cptr cs)::R) B λj c ts=>K j c (⟨[],[]⟩::ts)):WO P H ext mt ops (o::l) R B K:=by
 simp only [Prod.mk.injEq]at a
 obtain⟨h1,q,r,u,z,C,D,E,F⟩:=a
 exact WO.Bk G h1 q r u z C D E F h
theorem aR{α:Type}{f:α->PD}{li m r:List α}{t e:TypeId}{x y:Operand}{c:Call}{id ver sz by_:Nat}{z:Value}(X:tE li m (by_+1)=some r)(C:∀x,(f x).cells.length=sz+1)
  (D : (tz ops (A R B) o, o.dst, o.op, c.callee, c.args.toList, c.argTypes, (A R B).opd x, (A R B).opd y, assoc B id, uA P t, szT P e, uJ P e, uE P e, z.cells.size) =
   (some true,some d,.call c,.builtin .append,[x,y], #[t,t],some (.ref id ver),some (.d (.lst (m.map f))),some (.arr ver e (li.map f)),some e,some (sz+1),some (by_+1),some z,sz+1))
  (h:WO P H ext mt ops l ((d,.ref id (ver+1))::R) ((id,.arr (ver+1) e (r.map f))::B) λF E ts=>K F E (⟨[id],[id]⟩::ts)):WO P H ext mt ops (o::l) R B K:=by
 simp only [Prod.mk.injEq]at D
 obtain⟨h1,G,I,J,L,N,O,T,W,a,j,k,q,u⟩:=D
 exact WO.appR X C h1 G I J L N O T W a j k q u h
end
section
variable {P:Program}{H:Hints}{ext:FuncId->Option tI}{f:FuncId}{nb:Nat}{R:List (Nat×RV)}{B:List (Nat×Box)}{Q:Ex->List (Nat×RV)->List (Nat×Box)->Prop}
theorem gS{id:Nat}{ops:Array Oper}{l:List Oper}{R0:List (Nat×RV)}{B0:List (Nat×Box)}{b:Code}(k:ops.toList=l)(j:tH P nb (A R B) (H.at_ f nb id)=some (A R0 B0))
  (h:WO P H ext (H.hf f) ops l R0 B0 λc a _=>WC P H ext f nb b c a Q):WC P H ext f nb (.seq (.region id ops false) b) R B Q:=WC.uR j k h
theorem cT{c:Operand}{a b:Code}(h1:WC P H ext f nb a R B Q)
  (hc:(A R B).opd c=some (.d (.bool true)):=by exact rfl):WC P H ext f nb (.cond c a b) R B Q:=WC.condT hc h1
theorem cF{c:Operand}{a b:Code}(h1:WC P H ext f nb b R B Q)
  (hc:(A R B).opd c=some (.d (.bool false)):=by exact rfl):WC P H ext f nb (.cond c a b) R B Q:=WC.condF hc h1
theorem qR(h:Q .ret R B):WC P H ext f nb .ret R B Q:=WC.ret h
theorem qK(h:Q .normal R B):WC P H ext f nb .skip R B Q:=WC.skip h
theorem qX{id:Nat}(h:Q (.exit id) R B):WC P H ext f nb (.exit id) R B Q:=WC.exit h
theorem qS{a b:Code}(h:WC P H ext f nb a R B λe j c=>match e with| .normal=>WC P H ext f nb b j c Q|e=>Q e j c):WC P H ext f nb (.seq a b) R B Q:=WC.seq h
theorem qB{id:Nat}{b:Code}(h:WC P H ext f nb b R B λe j c=>match e with| .exit a=>(a=id->Q .normal j c)∧(a≠id->Q (.exit a) j c)|e=>Q e j c):WC P H ext f nb (.block id b) R B Q:=WC.block h
theorem qD{own:Nat->Bool}{fn:Func}{r:RV}{a:List Box}{x:RV×List Box}{e:Ex}
  (hf:finish P own fn nb (A R B)=some x:=by exact rfl) (c:x=(r,a):=by exact rfl) (he:(match e with| .exit _=>false|_=>true)=true:=by exact rfl):vh P own fn nb r a e R B:=WC.done he hf c
theorem qG{own:Nat->Bool}{fn:Func}{r:RV}{a:List Box}{e:Ex}
  (hf:finish P own fn nb (A R B)=some (r,a):=by kernel_rfl) (he:(match e with| .exit _=>false|_=>true)=true:=by exact rfl):vh P own fn nb r a e R B:=WC.done he hf rfl
theorem qE{α:Type}{x:α}{X Y:Prop}(h:X):(x=x->X)∧(x≠x->Y):=⟨λ_=>h,λa=>(a rfl).elim⟩
end
end Go.Dw
