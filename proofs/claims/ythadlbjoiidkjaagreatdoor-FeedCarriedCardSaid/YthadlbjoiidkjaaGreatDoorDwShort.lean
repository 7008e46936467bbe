
import Derived.Test.YthadlbjoiidkjaaGreatDoorDwLift4

namespace Go.Dw
section
variable {P:Program}{H:Hints}{ext:FuncId->Option pT}{mt:Hf}{ops:Array Oper}{l:List Oper}{R:List (Nat×RV)}{B:List (Nat×Box)}{K:List (Nat×RV)->List (Nat×Box)->List Tr->Prop}
 {d:Nat} {op:Op} {ty:TypeId} {p:String} {af:Array Edge} {g:Option (Nat×Bool)}
theorem sV(v:RV){rd:List Nat}(h:WO P H ext mt ops l ((d,v)::R) B fun R' B' ts=>K R' B' (⟨rd,[]⟩::ts))
  (he:∀n,pX P mt (qw P H ext n) (A R B) ⟨some d,op,ty,p,af,g⟩ (assoc B)=some ((v,[]),rd,true):=by exact fun _=>rfl) (hw:pL ops (A R B) ⟨some d,op,ty,p,af,g⟩=some true:=by exact rfl):WO P H ext mt ops (⟨some d,op,ty,p,af,g⟩::l) R B K:=WO.s0 hw rfl he rfl h
theorem sT{rd:List Nat}(h:WO P H ext mt ops l ((d,.d (.bool true))::R) B fun R' B' ts=>K R' B' (⟨rd,[]⟩::ts))
  (he:∀n,pX P mt (qw P H ext n) (A R B) ⟨some d,op,ty,p,af,g⟩ (assoc B)=some ((.d (.bool true),[]),rd,true):=by exact fun _=>rfl) (hw:pL ops (A R B) ⟨some d,op,ty,p,af,g⟩=some true:=by exact rfl):WO P H ext mt ops (⟨some d,op,ty,p,af,g⟩::l) R B K:=WO.s0 hw rfl he rfl h
theorem sU{rd:List Nat}(h:WO P H ext mt ops l ((d,.d (.bool false))::R) B fun R' B' ts=>K R' B' (⟨rd,[]⟩::ts))
  (he:∀n,pX P mt (qw P H ext n) (A R B) ⟨some d,op,ty,p,af,g⟩ (assoc B)=some ((.d (.bool false),[]),rd,true):=by exact fun _=>rfl) (hw:pL ops (A R B) ⟨some d,op,ty,p,af,g⟩=some true:=by exact rfl):WO P H ext mt ops (⟨some d,op,ty,p,af,g⟩::l) R B K:=WO.s0 hw rfl he rfl h
theorem oI{α:Type}{x r:α}(h:some x=some r):x=r:=Option.some.inj h
theorem sG(v:RV)(h:WO P H ext mt ops l ((d,v)::R) B fun R' B' ts=>K R' B' (⟨[],[]⟩::ts))
  (he:∀n,pX P mt (qw P H ext n) (A R B) ⟨some d,op,ty,p,af,g⟩ (assoc B)=some ((v,[]),[],true):=by intro _;kernel_rfl) (hw:pL ops (A R B) ⟨some d,op,ty,p,af,g⟩=some true:=by exact rfl):WO P H ext mt ops (⟨some d,op,ty,p,af,g⟩::l) R B K:=WO.s0 hw rfl he rfl h
theorem sH(id:Nat)(bx:Box)(h:WO P H ext mt ops l R ((id,bx)::B) fun R' B' ts=>K R' B' (⟨[id],[id]⟩::ts))
  (he:∀n,pX P mt (qw P H ext n) (A R B) ⟨none,op,ty,p,af,g⟩ (assoc B)=some ((.undef,[(id,bx)]),[id],true):=by intro _;kernel_rfl) (hw:pL ops (A R B) ⟨none,op,ty,p,af,g⟩=some true:=by exact rfl):WO P H ext mt ops (⟨none,op,ty,p,af,g⟩::l) R B K:=WO.n1 hw rfl he h
theorem sE(v':RV){v:RV}(hv:v=v'){rd:List Nat}(h:WO P H ext mt ops l ((d,v')::R) B fun R' B' ts=>K R' B' (⟨rd,[]⟩::ts))
  (he:∀n,pX P mt (qw P H ext n) (A R B) ⟨some d,op,ty,p,af,g⟩ (assoc B)=some ((v,[]),rd,true):=by exact fun _=>rfl) (hw:pL ops (A R B) ⟨some d,op,ty,p,af,g⟩=some true:=by exact rfl):WO P H ext mt ops (⟨some d,op,ty,p,af,g⟩::l) R B K:=WO.s0 hw rfl he hv h
theorem sM{x:Operand}{v:RV}(hx:(A R B).opd x=some v)(h:WO P H ext mt ops l ((d,v)::R) B fun R' B' ts=>K R' B' (⟨[],[]⟩::ts))(hw:pL ops (A R B) ⟨some d,.move x,ty,p,af,g⟩=some true:=by exact rfl):WO P H ext mt ops (⟨some d,.move x,ty,p,af,g⟩::l) R B K:=
 WO.s0 hw rfl (fun n=>by simp only [pX,hx];rfl) rfl h
theorem sA{x:Operand}{v:RV}(hx:(A R B).opd x=some v)(h:WO P H ext mt ops l ((d,v)::R) B fun R' B' ts=>K R' B' (⟨[],[]⟩::ts))(hw:pL ops (A R B) ⟨some d,.assign x,ty,p,af,g⟩=some true:=by exact rfl):WO P H ext mt ops (⟨some d,.assign x,ty,p,af,g⟩::l) R B K:=
 WO.s0 hw rfl (fun n=>by simp only [pX,hx];rfl) rfl h
def cellW(P:Program)(t:TypeId)(x:Option RV)(b:Nat->Option Box):Option (Nat×RV):=
 match x with
 | some (.ptr id off) => (match b id with
  | some (.var cs) => (match sY P t with
   |some (false,_)=>(match cs[off]? with|some v=>some (id,v)|none=>none)
   |_=>none)
  |_=>none)
 |_=>none
theorem sL{t:TypeId}{a:Operand}{id:Nat}{v:RV}(hc:cellW P t ((A R B).opd a) (assoc B)=some (id,v))(h:WO P H ext mt ops l ((d,v)::R) B fun R' B' ts=>K R' B' (⟨[id],[]⟩::ts))(hw:pL ops (A R B) ⟨some d,.load t a,ty,p,af,g⟩=some true:=by exact rfl):WO P H ext mt ops (⟨some d,.load t a,ty,p,af,g⟩::l) R B K:=by
 refine WO.s0 hw rfl (fun m=>?_) rfl h
 unfold cellW at hc
 split at hc
 ·rename_i ha
  split at hc
  ·rename_i hb
   split at hc
   ·rename_i hk
    split at hc
    ·rename_i hx
     cases hc
     simp only [pX,ha,tp,M.bind,M.get,hb,rD,hk,hx];rfl
    ·cases hc
   ·cases hc
  ·cases hc
 ·cases hc
theorem sC{t:TypeId}{a:Operand}{n:Nat}{c:PD}{cs:List PD}(ha:(A R B).opd a=some (.cptr (c::cs)))(h:WO P H ext mt ops l ((d,.d c)::R) B fun R' B' ts=>K R' B' (⟨[],[]⟩::ts))(hk:sY P t=some (false,n):=by exact rfl)(hw:pL ops (A R B) ⟨some d,.load t a,ty,p,af,g⟩=some true:=by exact rfl):WO P H ext mt ops (⟨some d,.load t a,ty,p,af,g⟩::l) R B K:=
 WO.s0 hw rfl (fun m=>by simp only [pX,ha,tp,ti,hk];rfl) rfl h
theorem sF{β:Type}{t:Bool}{a b:Option β}{r:β}(hi:(if t=true then a else b)=some r){rd:List Nat}(h1:a=some r->WO P H ext mt ops l ((d,.d (.bool true))::R) B fun R' B' ts=>K R' B' (⟨rd,[]⟩::ts))(h2:b=some r->WO P H ext mt ops l ((d,.d (.bool false))::R) B fun R' B' ts=>K R' B' (⟨rd,[]⟩::ts))
  (he:∀n,pX P mt (qw P H ext n) (A R B) ⟨some d,op,ty,p,af,g⟩ (assoc B)=some ((.d (.bool t),[]),rd,true):=by exact fun _=>rfl) (hw:pL ops (A R B) ⟨some d,op,ty,p,af,g⟩=some true:=by exact rfl):WO P H ext mt ops (⟨some d,op,ty,p,af,g⟩::l) R B K:=by
 cases t with
 |true=>exact WO.s0 hw rfl he rfl (h1 hi)
 |false=>exact WO.s0 hw rfl he rfl (h2 hi)
theorem sK(h:WO P H ext mt ops l ((d,.undef)::R) B fun R' B' ts=>K R' B' (⟨[],[]⟩::ts))
  (hw:pL ops (A R B) ⟨some d,op,ty,p,af,g⟩=some false:=by exact rfl):WO P H ext mt ops (⟨some d,op,ty,p,af,g⟩::l) R B K:=WO.skip hw rfl h
theorem sB(v:RV)(id:Nat)(bx:Box){rd:List Nat}(h:WO P H ext mt ops l ((d,v)::R) ((id,bx)::B) fun R' B' ts=>K R' B' (⟨rd,[id]⟩::ts))
  (he:∀n,pX P mt (qw P H ext n) (A R B) ⟨some d,op,ty,p,af,g⟩ (assoc B)=some ((v,[(id,bx)]),rd,true):=by exact fun _=>rfl) (hw:pL ops (A R B) ⟨some d,op,ty,p,af,g⟩=some true:=by exact rfl):WO P H ext mt ops (⟨some d,op,ty,p,af,g⟩::l) R B K:=WO.s1 hw rfl he h
theorem sS(id:Nat)(bx:Box){rd:List Nat}(h:WO P H ext mt ops l R ((id,bx)::B) fun R' B' ts=>K R' B' (⟨rd,[id]⟩::ts))
  (he:∀n,pX P mt (qw P H ext n) (A R B) ⟨none,op,ty,p,af,g⟩ (assoc B)=some ((.undef,[(id,bx)]),rd,true):=by exact fun _=>rfl) (hw:pL ops (A R B) ⟨none,op,ty,p,af,g⟩=some true:=by exact rfl):WO P H ext mt ops (⟨none,op,ty,p,af,g⟩::l) R B K:=WO.n1 hw rfl he h
theorem sN(h:K R B []):WO P H ext mt ops [] R B K:=WO.nil h
theorem sO{ts:List Tr}{X:Prop}(h:X)(ho:wF ops ts=true:=by kernel_rfl):wF ops ts=true∧X:=⟨ho,h⟩
theorem cD{f:FuncId}{args as:List RV}{ra:List Nat}{r:RV}{as':List RV}(hE:EvP P H ext f as' [] (r,[]))(h:WO P H ext mt ops l ((d,r)::R) B fun R' B' ts=>K R' B' (⟨ra++([]++([]++([]++[]))),[]⟩::ts))
  (he:∀call,pX P mt call (A R B) ⟨some d,op,ty,p,af,g⟩ (assoc B)=sk mt.by_ call f (d*16) args (assoc B):=by exact fun _=>rfl) (hA:vJ (mt.by_ f) 0 args (assoc B)=some ((as,[]),ra,true):=by exact rfl) (hI:as.flatMap idsV=[]:=by exact rfl) (has:as.map (rX (uO [] []))=as':=by exact rfl) (hr:rX (yr [] [] []) r=r:=by exact rfl) (hw:pL ops (A R B) ⟨some d,op,ty,p,af,g⟩=some true:=by exact rfl):WO P H ext mt ops (⟨some d,op,ty,p,af,g⟩::l) R B K:=
 WO.pV (u:=[]) hw rfl he hA (by rw [hI];rfl) rfl has rfl hE rfl rfl hr (ite_self _) h
theorem cR(v:RV)(u:Ups){f:FuncId}{args as:List RV}{ids ra ri rg rv':List Nat}{u0:Ups}{bxs bs0:List Box}{q:RV×List Box}{as':List RV}(hE:EvP P H ext f as' bs0 q)(h:WO P H ext mt ops l ((d,v)::R) (xK u B) fun R' B' ts=>K R' B' (⟨ra++(ri++(rg++(rv'++[]))),u.map (·.1)⟩::ts))
  (he:∀call,pX P mt call (A R B) ⟨some d,op,ty,p,af,g⟩ (assoc B)=sk mt.by_ call f (d*16) args (assoc B):=by exact fun _=>rfl) (hA:vJ (mt.by_ f) 0 args (assoc B)=some ((as,u0),ra,true):=by exact rfl) (hI:tj 64 [] (as.flatMap idsV) (assoc B)=some (ids,ri,true):=by exact rfl) (hG:vP ids (assoc B)=some (bxs,rg,true):=by exact rfl) (has:as.map (rX (uO ids bxs))=as':=by exact rfl) (hbs:bxs.map (sj (uO ids bxs) fun _=>0)=bs0:=by exact rfl) (hc:(decide (ids.length<=q.2.length)&&(nodup ids&&disj ids (u0.map (·.1))))=true:=by exact rfl) (hV:sh (tF (d*16) (q.2.length-ids.length)) (assoc B)=some ((),rv',true):=by exact rfl) (hr:rX (yr (ids++tF (d*16) (q.2.length-ids.length)) bxs q.2) q.1=v:=by exact rfl) (hu:zX u0 ids q.2 q.1 (yq (ids++tF (d*16) (q.2.length-ids.length)) bxs q.2)=u:=by exact rfl) (hw:pL ops (A R B) ⟨some d,op,ty,p,af,g⟩=some true:=by exact rfl):WO P H ext mt ops (⟨some d,op,ty,p,af,g⟩::l) R B K:=
 WO.pV hw rfl he hA hI hG has hbs hE hc hV hr hu h
theorem bE{α β:Type}{m:Option α}{k:α->Option β}{r:β}(h:m.bind k=some r){G:Prop}(hk:∀x,m=some x->k x=some r->G):G:=vq h hk
theorem k3{d1:Nat}{op1:Op}{ty1:TypeId}{p1:String}{af1:Array Edge}{g1:Option (Nat×Bool)}{d2:Nat}{op2:Op}{ty2:TypeId}{p2:String}{af2:Array Edge}{g2:Option (Nat×Bool)}{d3:Nat}{op3:Op}{ty3:TypeId}{p3:String}{af3:Array Edge}{g3:Option (Nat×Bool)}(h:WO P H ext mt ops l ((d3,.undef)::(d2,.undef)::(d1,.undef)::R) B fun R' B' ts=>K R' B' (⟨[],[]⟩::⟨[],[]⟩::⟨[],[]⟩::ts))
  (h1:pL ops (A (R) B) ⟨some d1,op1,ty1,p1,af1,g1⟩=some false:=by exact rfl) (h2:pL ops (A ((d1,.undef)::R) B) ⟨some d2,op2,ty2,p2,af2,g2⟩=some false:=by exact rfl) (h3:pL ops (A ((d2,.undef)::(d1,.undef)::R) B) ⟨some d3,op3,ty3,p3,af3,g3⟩=some false:=by exact rfl):WO P H ext mt ops (⟨some d1,op1,ty1,p1,af1,g1⟩::⟨some d2,op2,ty2,p2,af2,g2⟩::⟨some d3,op3,ty3,p3,af3,g3⟩::l) R B K:=sK (sK (sK h h3) h2) h1
variable {o:Oper}
theorem eG{α:Type}{f:α->PD}{li:List α}{t e:TypeId}{x i:Operand}{k:IntKind}{n:Int}{sz:Nat}{y:α}{cs:List PD}(hg:pH li n=some y)
  (hq:(pL ops (A R B) o,o.dst,o.op,(A R B).opd x,(A R B).opd i,P.underlying t,szT P e,(f y).cells,cs.length)=(some true,some d,.indexAddr t x i,some (.d (.lst (li.map f))),some (.d (.int k n)),some (.slice e),some sz,cs,sz))
  (h:WO P H ext mt ops l ((d,.cptr cs)::R) B fun R' B' ts=>K R' B' (⟨[],[]⟩::ts)):WO P H ext mt ops (o::l) R B K:=by
 simp only [Prod.mk.injEq]at hq
 obtain⟨h1,h2,h3,h4,h5,h6,h7,h8,h9⟩:=hq
 exact WO.elemG hg h1 h2 h3 h4 h5 h6 h7 h8 h9 h
theorem aR{α:Type}{f:α->PD}{li m r:List α}{t e:TypeId}{x y:Operand}{c:Call}{id ver sz by_:Nat}{z:Value}(hg:qq li m (by_+1)=some r)(hsz:∀x,(f x).cells.length=sz+1)
  (hq : (pL ops (A R B) o, o.dst, o.op, c.callee, c.args.toList, c.argTypes, (A R B).opd x, (A R B).opd y, assoc B id, rf P t, szT P e, rZ P e, qQ P e, z.cells.size) =
   (some true,some d,.call c,.builtin .append,[x,y], #[t,t],some (.ref id ver),some (.d (.lst (m.map f))),some (.arr ver e (li.map f)),some e,some (sz+1),some (by_+1),some z,sz+1))
  (h:WO P H ext mt ops l ((d,.ref id (ver+1))::R) ((id,.arr (ver+1) e (r.map f))::B) fun R' B' ts=>K R' B' (⟨[id],[id]⟩::ts)):WO P H ext mt ops (o::l) R B K:=by
 simp only [Prod.mk.injEq]at hq
 obtain⟨h1,h2,h3,h4,h5,h6,h7,h8,h9,h10,h11,h12,h13,h14⟩:=hq
 exact WO.appR hg hsz h1 h2 h3 h4 h5 h6 h7 h8 h9 h10 h11 h12 h13 h14 h
end
section
variable {P:Program}{H:Hints}{ext:FuncId->Option pT}{f:FuncId}{nb:Nat}{R:List (Nat×RV)}{B:List (Nat×Box)}{Q:Ex->List (Nat×RV)->List (Nat×Box)->Prop}
theorem gS{id:Nat}{ops:Array Oper}{l:List Oper}{R0:List (Nat×RV)}{B0:List (Nat×Box)}{b:Code}(hl:ops.toList=l)(hg:p6 P nb (A R B) (H.at_ f nb id)=some (A R0 B0))
  (h:WO P H ext (H.hf f) ops l R0 B0 fun R' B' _=>WC P H ext f nb b R' B' Q):WC P H ext f nb (.seq (.region id ops false) b) R B Q:=WC.qv hg hl h
theorem cT{c:Operand}{a b:Code}(h1:WC P H ext f nb a R B Q)
  (hc:(A R B).opd c=some (.d (.bool true)):=by exact rfl):WC P H ext f nb (.cond c a b) R B Q:=WC.condT hc h1
theorem cF{c:Operand}{a b:Code}(h1:WC P H ext f nb b R B Q)
  (hc:(A R B).opd c=some (.d (.bool false)):=by exact rfl):WC P H ext f nb (.cond c a b) R B Q:=WC.condF hc h1
theorem qR(h:Q .ret R B):WC P H ext f nb .ret R B Q:=WC.ret h
theorem qK(h:Q .normal R B):WC P H ext f nb .skip R B Q:=WC.skip h
theorem qX{id:Nat}(h:Q (.exit id) R B):WC P H ext f nb (.exit id) R B Q:=WC.exit h
theorem qS{a b:Code}(h:WC P H ext f nb a R B fun e R' B'=>match e with| .normal=>WC P H ext f nb b R' B' Q|e=>Q e R' B'):WC P H ext f nb (.seq a b) R B Q:=WC.seq h
theorem qB{id:Nat}{b:Code}(h:WC P H ext f nb b R B fun e R' B'=>match e with| .exit id'=>(id'=id->Q .normal R' B')∧(id'≠id->Q (.exit id') R' B')|e=>Q e R' B'):WC P H ext f nb (.block id b) R B Q:=WC.block h
theorem qD{own:Nat->Bool}{fn:Func}{r:RV}{bs':List Box}{x:RV×List Box}{e:Ex}
  (hf:finish P own fn nb (A R B)=some x:=by exact rfl) (hx:x=(r,bs'):=by exact rfl) (he:(match e with| .exit _=>false|_=>true)=true:=by exact rfl):Done P own fn nb r bs' e R B:=WC.done he hf hx
theorem qG{own:Nat->Bool}{fn:Func}{r:RV}{bs':List Box}{e:Ex}
  (hf:finish P own fn nb (A R B)=some (r,bs'):=by kernel_rfl) (he:(match e with| .exit _=>false|_=>true)=true:=by exact rfl):Done P own fn nb r bs' e R B:=WC.done he hf rfl
theorem qE{α:Type}{x:α}{X Y:Prop}(h:X):(x=x->X)∧(x≠x->Y):=⟨fun _=>h,fun hne=>(hne rfl).elim⟩
end
end Go.Dw
