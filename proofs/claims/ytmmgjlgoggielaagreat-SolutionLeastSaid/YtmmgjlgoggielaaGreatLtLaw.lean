
import Derived.Test.YtmmgjlgoggielaaGreatLtLawJ
import Derived.KernelRfl

set_option maxRecDepth 100000
set_option maxHeartbeats 4000000
namespace Go.Dw.Lt
open Go.Dw Go.Proofs
abbrev In(b:ag)(p:aa):Prop:=Sub b ⟨p,p⟩
theorem center_at{r b:ag}(hr:dN r)(hp:dg 20 r.aF)(h:Sub r b):Ok (ei b) (fun p=>In b p∧(pts b<2->∀x,In b x->x=p)):=by
 have hb:=h.ok hr hp
 obtain⟨⟨l1,l2,l3⟩,h1,h2,h3⟩:=gi hb
 obtain⟨-,s1,s2,s3⟩:=id hb
 obtain⟨x,y,z⟩:=h
 unfold ei bc bi
 rw [cr hb,zc,if_neg sm,zc,zc]
 simp only
 rw [jq om,zc,jq om,zc,jq om,zc]
 refine Ok.ret ⟨⟨za,za,za⟩,fun hn p hin=>?_⟩
 have one:∀{a b c:Int},1<=a->1<=b->1<=c->a*b*c<2->a=1∧b=1∧c=1:=by
  intro a b c ha hb hc h
  have k1:1<=a*b:=by have:=Int.mul_le_mul ha hb om (by omega:(0:Int)<=a);omega
  have k2:a*b<=a*b*c:=by have:=Int.mul_le_mul_of_nonneg_left hc (by omega:0<=a*b);omega
  have k3:c<=a*b*c:=by have:=Int.mul_le_mul_of_nonneg_right k1 (by omega:0<=c);omega
  have k4:a<=a*b:=by have:=Int.mul_le_mul_of_nonneg_left hb (by omega:0<=a);omega
  have k5:b<=a*b:=by have:=Int.mul_le_mul_of_nonneg_right ha (by omega:0<=b);omega
  omega
 obtain⟨o1,o2,o3⟩:=one (a:=b.az.fX-b.aF.fX+1) (b:=b.az.fY-b.aF.fY+1) (c:=b.az.fZ-b.aF.fZ+1) om om om hn
 obtain⟨p1,p2,p3⟩:=p
 obtain⟨i1,i2,i3⟩:=hin
 simp only at i1 i2 i3
 congr 1<;>omega
theorem split_cover{r b:ag}(hr:dN r)(hp:dg 20 r.aF)(h:Sub r b):Ok (d4 b) (fun s=>(s.2.2=true->(Sub r s.1∧Sub r s.2.1∧pts s.1+pts s.2.1=pts b)∧∀p,In b p->In s.1 p∨In s.2.1 p)∧(s.2.2=false->pts b<2)):=by
 have h0:=xj hr hp h
 have hb:=h.ok hr hp
 obtain⟨⟨l1,l2,l3⟩,h1,h2,h3⟩:=gi hb
 have hpt:=points_at hb
 obtain⟨-,s1,s2,s3⟩:=id hb
 obtain⟨x,y,z⟩:=h
 suffices hs:Ok (d4 b) (fun s=>(s.2.2=true->∀p,In b p->In s.1 p∨In s.2.1 p)∧(s.2.2=false->pts b<2))by
  obtain⟨s,e,k⟩:=hs
  obtain⟨s',e',k'⟩:=h0
  rw [e]at e';cases e'
  exact⟨s,e,fun ht=>⟨k' ht,k.1 ht⟩,k.2⟩
 unfold d4 bc bi
 rw [hpt,zc]
 refine Ok.nS (fun hlt=>Ok.ret ⟨sm,fun _=>hlt⟩) (fun hn=>?_)
 have hbig:=one_side (x:=b.az.fX-b.aF.fX+1) (y:=b.az.fY-b.aF.fY+1) (z:=b.az.fZ-b.aF.fZ+1) om om om (by unfold pts at hn;omega)
 simp only [zc]
 rw [w64 (n:=b.az.fX-b.aF.fX) om om,w64 (n:=b.az.fY-b.aF.fY) om om,w64 (n:=b.az.fZ-b.aF.fZ) om om]
 have cX:2<=b.az.fX-b.aF.fX+1->Ok ((bB b.aF.fX b.az.fX).bind fun x17=>some (ag.mk b.aF (aa.mk x17 b.az.fY b.az.fZ),ag.mk (aa.mk (IntKind.wrap .i64 (x17+(1:Int))) b.aF.fY b.aF.fZ) b.az,true)) (fun s:ag×ag×Bool=>(s.2.2=true->∀p,In b p->In s.1 p∨In s.2.1 p)∧(s.2.2=false->pts b<2)):=fun h2=>by
  rw [jq om,zc,w64 om om]
  refine Ok.ret ⟨fun _ p⟨i1,i2,i3⟩=>?_,sm⟩
  simp only at i1 i2 i3
  rcases Int.lt_or_le (b.aF.fX+(b.az.fX-b.aF.fX) / 2) p.fX with h|h
  ·right;exact⟨za,za,za⟩
  ·left;exact⟨za,za,za⟩
 have cY:2<=b.az.fY-b.aF.fY+1->Ok ((bB b.aF.fY b.az.fY).bind fun x10=>some (ag.mk b.aF (aa.mk b.az.fX x10 b.az.fZ),ag.mk (aa.mk b.aF.fX (IntKind.wrap .i64 (x10+(1:Int))) b.aF.fZ) b.az,true)) (fun s:ag×ag×Bool=>(s.2.2=true->∀p,In b p->In s.1 p∨In s.2.1 p)∧(s.2.2=false->pts b<2)):=fun h2=>by
  rw [jq om,zc,w64 om om]
  refine Ok.ret ⟨fun _ p⟨i1,i2,i3⟩=>?_,sm⟩
  simp only at i1 i2 i3
  rcases Int.lt_or_le (b.aF.fY+(b.az.fY-b.aF.fY) / 2) p.fY with h|h
  ·right;exact⟨za,za,za⟩
  ·left;exact⟨za,za,za⟩
 have cZ:2<=b.az.fZ-b.aF.fZ+1->Ok ((bB b.aF.fZ b.az.fZ).bind fun x7=>some (ag.mk b.aF (aa.mk b.az.fX b.az.fY x7),ag.mk (aa.mk b.aF.fX b.aF.fY (IntKind.wrap .i64 (x7+(1:Int)))) b.az,true)) (fun s:ag×ag×Bool=>(s.2.2=true->∀p,In b p->In s.1 p∨In s.2.1 p)∧(s.2.2=false->pts b<2)):=fun h2=>by
  rw [jq om,zc,w64 om om]
  refine Ok.ret ⟨fun _ p⟨i1,i2,i3⟩=>?_,sm⟩
  simp only at i1 i2 i3
  rcases Int.lt_or_le (b.aF.fZ+(b.az.fZ-b.aF.fZ) / 2) p.fZ with h|h
  ·right;exact⟨za,za,za⟩
  ·left;exact⟨za,za,za⟩
 exact Ok.nS (fun _=>Ok.nS (fun _=>cZ om) (fun _=>cY om)) (fun _=>Ok.nS (fun _=>cZ om) (fun _=>cX om))
structure Op(q:ae)(d:List Item):Prop where
 sub:jy q.aG d
 bound:∀x∈d,x.bQ=bnd q x.gU
 heap:m8 d d.length
structure Bst(q:ae)(l:ai):Prop where
 inn:In q.aG l.bp
 val:eY q l.bp=some (l.bS,l.aZ,0)
def Cover(q:ae)(f:Bool)(l:ai)(d:List Item):Prop:=∀p,In q.aG p->(∃x∈d,In x.gU p)∨(f=true∧l.aZ<=mis q p)
theorem bst_mis{q:ae}(hq:PV q){l:ai}(h:Bst q l):l.aZ=mis q l.bp:=by
 obtain⟨t,e, -⟩:=mis_at hq h.inn
 rw [h.val]at e
 exact(Prod.mk.inj (Prod.mk.inj (Option.some.inj e)).2).1
theorem add_at{q:ae}(hq:PV q){b:ag}(hb:Sub q.aG b){n k:Int}{f:Bool}{l:ai}{d:List Item}(hd:d.length<=500)(ho:Op q d):Ok (f9 b q n k f l d) (fun r=>r.1=0∧Op q r.2.2∧∃x:Item,x.gU=b∧r.2.2.Perm (x::d)):=by
 unfold f9 gc
 rw [(bnd_at hq hb).1,zc]
 refine Ok.pT (fun _=>?_) (fun h=>(h rfl).elim)
 refine Ok.bind (push_heap hd ho.heap) (fun r⟨r1,r2⟩=>Ok.ret ⟨rfl,⟨fun x hx=>?_,fun x hx=>?_,?_⟩,_,rfl,r1⟩)
 ·rcases List.mem_cons.1 (r1.mem_iff.1 hx)with rfl|h
  ·exact hb
  ·exact ho.sub x h
 ·rcases List.mem_cons.1 (r1.mem_iff.1 hx)with rfl|h
  ·rfl
  ·exact ho.bound x h
 ·have:r.length=d.length+1:=by rw [r1.length_eq];rfl
  show m8 r r.length
  rw [this];exact r2
theorem add1_at{q:ae}(hq:PV q){b:ag}(hb:Sub q.aG b){n k:Int}{f:Bool}{l:ai}:Ok (iW b q n k f l) (fun r=>r.1=0∧Op q r.2.1∧∃x:Item,x.gU=b∧r.2.1.Perm [x]):=by
 unfold iW gK
 rw [(bnd_at hq hb).1,zc]
 refine Ok.pT (fun _=>?_) (fun h=>(h rfl).elim)
 refine Ok.bind push1_heap (fun r⟨r1,r2⟩=>Ok.ret ⟨rfl,⟨fun x hx=>?_,fun x hx=>?_,?_⟩,_,rfl,r1⟩)
 ·rw [List.mem_singleton.1 (r1.mem_iff.1 hx)];exact hb
 ·rw [List.mem_singleton.1 (r1.mem_iff.1 hx)]
 ·have:r.length=1:=by rw [r1.length_eq];rfl
  show m8 r r.length
  rw [this];exact r2
theorem look_at{q:ae}(hq:PV q){b:ag}(hb:Sub q.aG b){n k:Int}{f:Bool}{l:ai}{d:List Item}(hf:f=true->Bst q l):
  Ok (ia b q n k f l d) (fun r=>r.1=0∧r.2.1=true∧Bst q r.2.2∧(f=true->r.2.2.aZ<=l.aZ)∧(pts b<2->∀p,In b p->r.2.2.aZ<=mis q p)):=by
 unfold ia
 refine Ok.bind (center_at hq.box hq.reg hb) (fun p⟨hp,hone⟩=>?_)
 obtain⟨t,e, -⟩:=mis_at hq (hb.trans hp)
 have e1:∀(g:pts b<2)x,In b x->mis q p=mis q x:=fun g x hx=>by rw [hone g x hx]
 rw [e,zc]
 refine Ok.oT (fun h=>(h rfl).elim) (fun _=>?_)
 have hg:Bst q (ai.mk p t (mis q p) 0 (ag.mk (aa.mk 0 0 0) (aa.mk 0 0 0))):=⟨hb.trans hp,e⟩
 refine Ok.tu (fun hff=>Ok.ret ⟨rfl,rfl,hg,fun h=>by rw [h]at hff;simp at hff,fun g x hx=>by rw [e1 g x hx];exact Int.le_refl _⟩) (fun hft=>?_)
 refine Ok.nS (fun hlt=>Ok.ret ⟨rfl,rfl,hg,fun _=>by simp only at hlt⊢;omega,fun g x hx=>by rw [e1 g x hx];exact Int.le_refl _⟩) (fun hge=>?_)
 have nU:l.aZ<=mis q p:=by simp only at hge;omega
 refine Ok.pT (fun heq=>?_) (fun _=>Ok.ret ⟨rfl,hft,hf hft,fun _=>Int.le_refl _,fun g x hx=>by rw [<-e1 g x hx];exact nU⟩)
 exact Ok.bind (compare_ok _ _) (fun c _=>Ok.nS (fun _=>Ok.ret ⟨rfl,rfl,hg,fun _=>by simp only at heq⊢;omega,fun g x hx=>by rw [e1 g x hx];exact Int.le_refl _⟩) (fun _=>Ok.ret ⟨rfl,hft,hf hft,fun _=>Int.le_refl _,fun g x hx=>by rw [<-e1 g x hx];exact nU⟩))
theorem ended_at{t:Int}{q:ae}{n k:Int}{f:Bool}{l:ai}{d:List Item}(hs:∀x∈d,0<=x.bQ∧x.bQ<=1000000)(hl:f=true->0<=l.aZ∧l.aZ<=1000000):
  Ok (gt t q n k f l d) (fun r=>(r=false->d≠ [])∧(r=true->d=[]∨f=true∧l.aZ-(at_ d 0).bQ<=t)):=by
 unfold gt
 refine Ok.pT (fun h=>Ok.ret ⟨fun h=>by simp at h,fun _=>.inl (List.length_eq_zero_iff.1 om)⟩) (fun h=>?_)
 have hd:d≠ []:=fun e=>h (by rw [e];rfl)
 have:=List.length_pos_iff.2 hd
 refine Ok.u6 (fun hf=>?_) (fun _=>Ok.ret ⟨fun _=>hd,fun h=>by simp at h⟩)
 refine Ok.bind (Ok.pf om om) (fun _ _=>Ok.bind (Ok.get om om) (fun x hx=>Ok.ret ⟨fun _=>hd,fun h=>.inr ⟨hf,?_⟩⟩))
 have h1:=hs x hx.1
 have h2:=hl hf
 have e:at_ d 0=x:=kT hx.2
 rw [w64 om om]at h
 rw [e];simpa using h
theorem bnd_range{q:ae}(hq:PV q){b:ag}(h:Sub q.aG b):0<=bnd q b∧bnd q b<=1000000:=by
 obtain⟨-,t,h1,h2, -⟩:=bnd_at hq h
 simp only at h1 h2
 have hl:=hq.len;have hc:=hq.cap
 have up:∀(ps:List aC)(zs:List al),(∀a∈ps,a.bt=1)->bw q.bN ps zs t<=1000*ps.length:=by
  intro ps
  induction ps with
  |nil=>intro zs _;simp [bw]
  |cons a ps ih=>
   intro zs hw
   cases zs with
   |nil=>simp [bw];omega
   |cons z zs=>
    have k:=ih zs (fun x hx=>hw x (by simp [hx]))
    show gG q.bN a.bt z t+bw q.bN ps zs t<=_
    have:gG q.bN a.bt z t<=1000:=by unfold gG;rw [hw a sm,Int.one_mul];omega
    simp only [List.length_cons];omega
 have:=up q.aN (q.aN.map (zn q b)) (fun a ha=>(hq.ph a ha).1.weight)
 have:=nA (cap:=q.bN) om (t:=t) q.aN (q.aN.map (zn q b)) (fun a ha=>by have:=(hq.ph a ha).1.weight;omega)
 omega
theorem mis_bnd{q:ae}(hq:PV q){p:aa}(h:In q.aG p):mis q p=bnd q ⟨p,p⟩:=by
 obtain⟨-,t,h1,h2,h3⟩:=bnd_at hq h
 obtain⟨t', -,k1,k2,k3⟩:=mis_at hq h
 have:=h3 _ k1
 have:=k3 _ h1
 simp only at*
 omega
theorem mis_range{q:ae}(hq:PV q){p:aa}(h:In q.aG p):0<=mis q p∧mis q p<=1000000:=by
 rw [mis_bnd hq h];exact bnd_range hq h
theorem step_at{q:ae}(hq:PV q){n k:Int}{f:Bool}{l:ai}{d:List Item}(hd:d≠ [])(ho:Op q d)(hk:0<=k∧k+cnt d<=200)(hf:f=true->Bst q l)(hc:Cover q f l d):
  Ok (ib q n k f l d) (fun r=>r.1=0∧r.2.2.1=k+1∧r.2.2.2.1=true∧Bst q r.2.2.2.2.1∧Op q r.2.2.2.2.2∧Cover q true r.2.2.2.2.1 r.2.2.2.2.2∧k+1+cnt r.2.2.2.2.2<=k+cnt d):=by
 match d,hd with
 |x::d,_=>
  have hlen:=cnt_len hq ho.sub
  have hx:=ho.sub x sm
  have ho':jy q.aG d:=fun y hy=>ho.sub y (List.mem_cons_of_mem _ hy)
  have hpx:=pts_in (hx.ok hq.box hq.reg)
  simp only [List.length_cons]at hlen
  unfold ib
  refine Ok.pT (fun h=>om) (fun _=>?_)
  refine Ok.bind (Ok.pf om sm) (fun _ _=>?_)
  rw [show nZ (x::d) (0:Int)=some x from rfl,zc]
  refine Ok.bind (pop_heap (by simp only [List.length_cons];omega) (by simpa using ho.heap)) (fun y⟨hy,hyh⟩=>?_)
  have hyl:y.2.length=d.length:=hy.length_eq
  have hyo:Op q y.2:=⟨ho'.perm hy,fun w hw=>ho.bound w (List.mem_cons_of_mem _ (hy.mem_iff.1 hw)),by rw [hyl];exact hyh⟩
  have hyc:cnt y.2=cnt d:=jh hy
  have hcx:cnt (x::d)=(2*pts x.gU-1)+cnt d:=rfl
  rw [w64 om om]
  refine Ok.bind (look_at hq hx hf) (fun z⟨z1,z2,z3,z4,z5⟩=>?_)
  refine Ok.oT (fun h=>(h z1).elim) (fun _=>?_)
  have cov:∀p,In q.aG p->(∃w∈y.2,In w.gU p)∨z.2.2.aZ<=mis q p∨In x.gU p:=fun p hp=>by
   rcases hc p hp with⟨w,hw,hwp⟩|⟨h1,h2⟩
   ·rcases List.mem_cons.1 hw with rfl|hw
    ·exact .inr (.inr hwp)
    ·exact .inl ⟨w,hy.mem_iff.2 hw,hwp⟩
   ·exact .inr (.inl (Int.le_trans (z4 h1) h2))
  refine Ok.bind (split_cover hq.box hq.reg hx) (fun s⟨hs,hsn⟩=>?_)
  refine Ok.tu (fun hsf=>Ok.ret ⟨rfl,rfl,z2,z3,hyo,fun p hp=>?_,za⟩) (fun hst=>?_)
  ·rcases cov p hp with h|h|h
   ·exact .inl h
   ·exact .inr ⟨rfl,h⟩
   ·exact .inr ⟨rfl,z5 (hsn hsf) p h⟩
  obtain⟨⟨s1,s2,s3⟩,s4⟩:=hs hst
  refine Ok.bind (add_at hq s1 om hyo) (fun u⟨u1,uo,a,ua,up⟩=>?_)
  refine Ok.oT (fun h=>(h u1).elim) (fun _=>?_)
  have hul:u.2.2.length=d.length+1:=by rw [up.length_eq];simp [hyl]
  refine Ok.bind (add_at hq s2 om uo) (fun v⟨v1,vo,b,vb,vp⟩=>Ok.ret ⟨v1,rfl,z2,z3,vo,fun p hp=>?_,?_⟩)
  ·simp only
   rcases cov p hp with⟨w,hw,hwp⟩|h|h
   ·exact .inl ⟨w,vp.mem_iff.2 (List.mem_cons_of_mem _ (up.mem_iff.2 (List.mem_cons_of_mem _ hw))),hwp⟩
   ·exact .inr ⟨trivial,h⟩
   ·rcases s4 p h with h|h
    ·exact .inl ⟨a,vp.mem_iff.2 (List.mem_cons_of_mem _ (up.mem_iff.2 sm)),by rw [ua];exact h⟩
    ·exact .inl ⟨b,vp.mem_iff.2 sm,by rw [vb];exact h⟩
  ·simp only
   rw [jh vp,hcx]
   simp only [cnt]
   rw [jh up]
   simp only [cnt]
   rw [ua,vb];omega
structure Fin(q:ae)(t:Int)(l:ai)(d:List Item):Prop where
 best:Bst q l
 opens:Op q d
 len:d.length<=200
 cover:Cover q true l d
 near:d=[]∨l.aZ-(at_ d 0).bQ<=t
theorem run_at{q:ae}(hq:PV q){t:Int}(ht:0<=t):Ok (fU q t) (fun r=>r.2=0∧∃s,r.1=some s∧Fin q t s.bC s.im):=by
 have hpr:=pts_in hq.box
 unfold fU
 rw [kQ hq,zc,if_neg sm,if_neg so]
 refine Ok.bind (add1_at hq (Sub.refl hq.box)) (fun x⟨x1,xo,a,xa,xp⟩=>?_)
 refine Ok.oT (fun h=>(h x1).elim) (fun _=>?_)
 have hxc:cnt x.2.1=2*pts q.aG-1:=by rw [jh xp];simp only [cnt];rw [xa];omega
 refine Ok.bind (P:=fun o=>∃y,o= .inl y∧Fin q t y.2.2.2.2 y.1) (Ok.loop (fun s:Int×Int×Bool×ai×List Item=>(0<=s.2.1∧s.2.1+cnt s.2.2.2.2<=200)∧Op q s.2.2.2.2∧(s.2.2.1=true->Bst q s.2.2.2.1)∧(s.2.2.2.2=[]->s.2.2.1=true)∧Cover q s.2.2.1 s.2.2.2.1 s.2.2.2.2) (fun s=>(200-s.2.1).toNat) ?_ ⟨⟨sm,za⟩,xo,sm,fun h=>?_,fun p hp=>.inl ⟨a,xp.mem_iff.2 sm,by rw [xa];exact hp⟩⟩) (fun o⟨y,ho,h1⟩=>by subst ho;exact Ok.ret ⟨rfl,_,rfl,h1⟩)
 ·rintro⟨s6,s7,s8,s9,s10⟩ ⟨⟨i0,i1⟩,i2,i3,i4,i5⟩
  simp only at i0 i1 i2 i3 i4 i5
  have hl:=cnt_len hq i2.sub
  unfold ir
  dsimp only
  refine Ok.bind (ended_at (fun x hx=>by rw [i2.bound x hx];exact bnd_range hq (i2.sub x hx)) (fun hf=>by rw [bst_mis hq (i3 hf)];exact mis_range hq (i3 hf).inn)) (fun e he=>?_)
  refine Ok.tu (fun hef=>?_) (fun het=>Ok.st ⟨_,rfl,?_⟩)
  ·have hne:=he.1 hef
   have:=List.length_pos_iff.2 hne
   refine Ok.bind (step_at hq hne i2 ⟨i0,i1⟩ i3 i5) (fun r⟨r1,r2,r3,r4,r5,r6,r7⟩=>?_)
   refine Ok.oT (fun h=>(h r1).elim) (fun _=>?_)
   exact Ok.nx ⟨⟨za,za⟩,r5,fun _=>r4,fun _=>r3,by simp only;rw [r3];exact r6⟩ za
  ·have hft:s8=true:=by
    rcases he.2 het with h|h
    ·exact i4 h
    ·exact h.1
   subst hft
   refine⟨i3 rfl,i2,za,i5,?_⟩
   rcases he.2 het with h|h
   ·exact .inl h
   ·exact .inr h.2
 ·simp only at h
  rw [h]at hxc
  simp only [cnt]at hxc;omega
structure Least(q:ae)(t:Int)(l:ai):Prop where
 inn:In q.aG l.bp
 val:eY q l.bp=some (l.bS,l.aZ,0)
 lower:∀p,In q.aG p->l.iH<=mis q p
 near:∀p,In q.aG p->l.aZ-t<=mis q p
theorem locate_least{q:ae}(hq:PV q){t:Int}(ht:0<=t):Ok (eJ q t) (fun r=>r.2=0∧Least q t r.1):=by
 unfold eJ
 refine Ok.bind (run_at hq ht) (fun x⟨x1,s,xs,⟨⟨g1,g2⟩,ho,hs,hc,hn⟩⟩=>?_)
 rw [xs]
 show Ok (if(x.2 != (0:Int))=true then _ else _) _
 refine Ok.oT (fun h=>(h x1).elim) (fun _=>?_)
 refine Ok.bind (P:=fun o:Int×ag=>o.1<=s.bC.aZ∧∀x∈s.im,o.1<=x.bQ) (Ok.loop (fun u:Int×Int×ag=>(0<=u.1∧u.1<=s.im.length)∧Sub q.aG u.2.2∧u.2.1<=s.bC.aZ∧∀(i:Nat)x,s.im[i]? =some x->i<u.1.toNat->u.2.1<=x.bQ) (fun u=>((s.im.length:Int)-u.1).toNat) ?_ ⟨⟨sm,sm⟩,g1,Int.le_refl _,fun i x _ hi=>by simp at hi⟩) (fun o⟨o1,o2⟩=>Ok.ret ⟨rfl,g1,g2,fun p hp=>?_,fun p hp=>?_⟩)
 ·rintro⟨u1,u2,u3⟩ ⟨⟨i0,i1⟩,i2,i3,i4⟩
  simp only at i0 i1 i2 i3 i4
  unfold iq
  refine Ok.nS (fun hlt=>?_) (fun _=>Ok.st ⟨i3,fun x hx=>?_⟩)
  rotate_left
  ·obtain⟨i,hi,rfl⟩:=List.getElem_of_mem hx
   exact i4 i _ (zd hi) om
  refine Ok.bind (Ok.get om om) (fun y hy=>?_)
  rw [w64 om om]
  have nxt:∀(i:Nat)x,s.im[i]? =some x->i<(u1+1).toNat->(if y.bQ<u2 then y.bQ else u2)<=x.bQ:=fun i x hx hi=>by
   rcases Nat.lt_or_ge i u1.toNat with h|h
   ·have:=i4 i x hx h
    split<;>omega
   ·have:i=u1.toNat:=by omega
    subst this
    rw [hy.2]at hx;cases hx
    split<;>omega
  have low:(if y.bQ<u2 then y.bQ else u2)<=s.bC.aZ:=by split<;>omega
  refine Ok.nS (fun _=>?_) (fun _=>Ok.nx ⟨⟨za,za⟩,i2,low,nxt⟩ za)
  exact Ok.bind (hull_ok hq.box hq.reg i2 (ho.sub y hy.1)) (fun z hz=>Ok.nx ⟨⟨za,za⟩,hz,low,nxt⟩ za)
 ·simp only
  rcases hc p hp with⟨w,hw,hwp⟩|⟨-,h⟩
  ·have:=o2 w hw
   rw [ho.bound w hw]at this
   exact Int.le_trans this (bnd_le hq (ho.sub w hw) hwp)
  ·omega
 ·simp only
  rcases hc p hp with⟨w,hw,hwp⟩|⟨-,h⟩
  ·have k1:=bnd_le hq (ho.sub w hw) hwp
   rw [<-ho.bound w hw]at k1
   obtain⟨i,hi,rfl⟩:=List.getElem_of_mem hw
   have k2:=ho.heap.root i hi
   rw [kT (zd hi)]at k2
   rcases hn with hn|hn
   ·rw [hn]at hi;simp at hi
   ·have:(at_ s.im 0).bQ<=(s.im[i]).bQ:=by unfold leI at k2;omega
    omega
  ·omega
end Go.Dw.Lt
set_option maxRecDepth 100000
set_option maxHeartbeats 4000000
namespace Go.Dw.Lt
open Go.Dw Go.Proofs
theorem iV{p:aa}(h:dg 60 p):eA p=some true:=by
 obtain⟨h1,h2,h3⟩:=h
 refine Ok.eq ?_
 unfold eA
 exact Ok.nS (fun _=>Ok.nS (fun _=>Ok.nS (fun _=>Ok.nS (fun _=>Ok.nS (fun _=>Ok.ret so) (fun _=>om)) (fun _=>om)) (fun _=>om)) (fun _=>om)) (fun _=>om)
theorem gY{b:ag}(h:dN b):ct b=some true:=by
 obtain⟨hl,hh⟩:=gi h
 obtain⟨-,h4,h5,h6⟩:=h
 unfold ct
 rw [iV hl,zc,if_pos rfl,iV hh,zc,if_pos rfl,if_pos so,if_pos so]
 simp;omega
theorem ko{t:aq}(h:ly t):dz t=some 0:=by
 obtain⟨h1,h2,h3,h4,h5,h6,h7,h8⟩:=h
 refine Ok.eq ?_
 unfold dz
 refine Ok.nS (fun _=>om) (fun _=>Ok.nS (fun _=>om) (fun _=>Ok.oT (fun h=>om) (fun _=>Ok.nS (fun _=>om) (fun _=>Ok.nS (fun _=>om) (fun _=>?_)))))
 refine Ok.bind (P:=fun o=>o= .inl ()) (Ok.upto t.aF.length om (fun _=>True) trivial (fun i i0 i1 _=>?_)) (fun o ho=>by subst ho;exact Ok.ret rfl)
 unfold kj
 refine Ok.nS (fun hlt=>?_) (fun _=>Ok.st rfl)
 refine Ok.bind (Ok.get i0 om) (fun a ha=>?_)
 refine Ok.nS (fun h=>by have:=h6 a ha.1;omega) (fun _=>?_)
 refine Ok.bind (Ok.get i0 om) (fun b hb=>?_)
 refine Ok.nS (fun h=>by have:=h7 b hb.1;omega) (fun _=>?_)
 refine Ok.bind (Ok.get i0 om) (fun a' ha'=>?_)
 refine Ok.bind (Ok.get i0 om) (fun b' hb'=>?_)
 obtain⟨j1,e1⟩:=List.getElem?_eq_some_iff.1 ha'.2
 obtain⟨j2,e2⟩:=List.getElem?_eq_some_iff.1 hb'.2
 refine Ok.nS (fun h=>by have:=h8 i.toNat j1 j2;omega) (fun _=>?_)
 rw [w64 (n:=i+1) om om]
 have nx:Ok (some (.next (i+1)):Option (nX Int (Unit⊕Int))) (Ok.S (fun i=>(0<=i∧i<=t.aF.length)∧True) (fun i=>((t.aF.length:Int)-i).toNat) (fun o=>o= .inl ()) i):=Ok.nx ⟨⟨om,om⟩,trivial⟩ om
 refine Ok.nS (fun hpos=>?_) (fun _=>nx)
 rw [w64 (n:=i-1) om om]
 refine Ok.bind (Ok.get i0 om) (fun c hc=>?_)
 refine Ok.bind (Ok.get om om) (fun d hd=>?_)
 obtain⟨k1,g1⟩:=List.getElem?_eq_some_iff.1 hc.2
 obtain⟨k2,g2⟩:=List.getElem?_eq_some_iff.1 hd.2
 refine Ok.nS (fun h=>by have:=asc_le h4 (i:=(i-1).toNat) (j:=i.toNat) om k1;omega) (fun _=>?_)
 refine Ok.bind (Ok.get i0 om) (fun c' hc'=>?_)
 refine Ok.bind (Ok.get om om) (fun d' hd'=>?_)
 obtain⟨k3,g3⟩:=List.getElem?_eq_some_iff.1 hc'.2
 obtain⟨k4,g4⟩:=List.getElem?_eq_some_iff.1 hd'.2
 exact Ok.nS (fun h=>by have:=asc_le h5 (i:=(i-1).toNat) (j:=i.toNat) om k3;omega) (fun _=>nx)
theorem nP{a:aC}(ha:PhV a):e8 a=some true:=by
 obtain⟨hp,h1,h2,h3,h4⟩:=ha
 unfold e8
 rw [iV hp,zc,if_pos rfl,if_pos (by simpa using h1),if_pos (by simpa using h2),if_pos (by simpa using h3),if_pos (by simp [h4])]
 simp [h4]
theorem bit_half:∀k:Nat,k<33->oj .i64 ((2:Int) ^ k / 2) 1=if k=0 then 0 else(2:Int) ^ (k-1) / 2:=by decide+kernel
theorem bit_in:∀j:Nat,j<32->(1:Int)<=(2:Int) ^ j∧(2:Int) ^ j<=2147483648:=by decide+kernel
theorem rfloor_ok(n:Int)(h0:0<=n)(h1:n<=65535):Ok (jk n) (fun r=>0<=r∧r*r<=n∧n<(r+1)*(r+1)):=by
 unfold jk
 rw [Option.bind_fun_some]
 refine Ok.loop (fun s:Int×Int=>(0<=s.1∧s.1<=255)∧s.1*s.1<=n∧∃k:Nat,k<=32∧s.2=(2:Int) ^ k / 2∧n<(s.1+(2:Int) ^ k)*(s.1+(2:Int) ^ k)) (fun s=>s.2.toNat) ?_ ⟨⟨sm,sm⟩,by simpa using h0,32,om,by decide+kernel,za⟩
 rintro⟨r,b⟩ ⟨⟨r0,r1⟩,r2,k,k0,rfl,k2⟩
 simp only at r0 r1 r2 k2
 unfold mn
 dsimp only
 rcases Nat.eq_zero_or_pos k with rfl|hk
 ·refine Ok.nS (fun h=>by simp at h) (fun _=>Ok.st ⟨r0,r2,by simpa using k2⟩)
 have hb:=bit_half k om
 rw [if_neg om]at hb
 obtain⟨j,rfl⟩:∃j,k=j+1:=⟨k-1,om⟩
 simp only [Nat.add_sub_cancel]at hb
 have hp:(2:Int) ^ (j+1) / 2=(2:Int) ^ j:=by rw [Int.pow_succ];omega
 obtain⟨hpos,hmax⟩:=bit_in j om
 rw [hp]at hb⊢
 rw [hb]
 have hh:(2:Int) ^ j / 2<(2:Int) ^ j:=by omega
 have k2':n<(r+2*(2:Int) ^ j)*(r+2*(2:Int) ^ j):=by rw [Int.pow_succ]at k2;rw [Int.mul_comm 2];exact k2
 generalize hB:(2:Int) ^ j=B at*
 refine Ok.nS (fun _=>?_) (fun h=>om)
 rw [w64 (n:=r+B) om om]
 refine Ok.nS (fun hle=>?_) (fun h=>om)
 have hsq:0<=(r+B)*(r+B)∧(r+B)*(r+B)<=3037000499*3037000499:=⟨Int.mul_nonneg om om,Int.mul_le_mul hle hle om om⟩
 rw [w64 (n:=(r+B)*(r+B)) om om]
 refine Ok.nS (fun hm=>?_) (fun hm=>?_)
 ·refine Ok.nx ⟨⟨za,?_⟩,hm,j,om,by simp only;rw [hB],?_⟩ za
  ·simp only
   apply Classical.byContradiction
   intro hgt
   have:256*256<=(r+B)*(r+B):=Int.mul_le_mul om om om om
   omega
  ·simp only
   rw [hB,show r+B+B=r+2*B by omega];exact k2'
 ·refine Ok.nx ⟨⟨r0,r1⟩,r2,j,om,by simp only;rw [hB],?_⟩ za
  simp only
  rw [hB];omega
theorem sq_uniq{x y n:Int}(hx:0<=x)(hy:0<=y)(h1:x*x<=n)(h2:n<(x+1)*(x+1))(h3:y*y<=n)(h4:n<(y+1)*(y+1)):x=y:=by
 have k:∀a b:Int,0<=a->0<=b->a*a<=n->n<(b+1)*(b+1)->a<=b:=fun a b ha hb g1 g2=>by
  apply Classical.byContradiction
  intro h
  have:(b+1)*(b+1)<=a*a:=Int.mul_le_mul om om om om
  omega
 have:=k x y hx hy h1 h4
 have:=k y x hy hx h3 h2
 omega
theorem rceil_ok(n:Int)(h0:0<=n)(h1:n<=65535):Ok (iR n) (fun r=>0<=r∧n<=r*r∧∀s,0<=s->n<=s*s->r<=s):=by
 unfold iR
 refine Ok.bind (rfloor_ok n h0 h1) (fun x⟨x0,x1,x2⟩=>?_)
 have hx:x<=255:=by
  apply Classical.byContradiction
  intro hgt
  have:256*256<=x*x:=Int.mul_le_mul om om om om
  omega
 have hsq:0<=x*x:=Int.mul_nonneg x0 x0
 have low:∀s,0<=s->n<=s*s->x<=s:=fun s s0 s1=>by
  apply Classical.byContradiction
  intro h
  have:(s+1)*(s+1)<=x*x:=Int.mul_le_mul om om om om
  have e:(s+1)*(s+1)=s*s+2*s+1:=by rw [Int.add_mul,Int.mul_add];omega
  omega
 rw [w64 (n:=x*x) om om,w64 (n:=x+1) om om]
 refine Ok.nS (fun hgt=>Ok.ret ⟨om,om,fun s s0 s1=>?_⟩) (fun hle=>Ok.ret ⟨x0,om,low⟩)
 have:=low s s0 s1
 rcases Int.lt_or_eq_of_le this with h|rfl
 ·omega
 ·omega
theorem rnear_at{b:ag}(hb:dN b){p:aa}(hp:dg 60 p):lL b p=some (kF b p):=by
 obtain⟨⟨l1,l2,l3⟩,g1,g2,g3⟩:=gi hb
 have hv:=gY hb
 obtain⟨-,s1,s2,s3⟩:=id hb
 have e:∀a b c:Int, -60<=a∧a<=60-> -60<=b∧b<=60-> -60<=c∧c<=60->iS b c a=some (ne a b c)∧0<=ne a b c∧ne a b c<=120:=fun a b c ha hb hc=>by
  unfold iS
  rw [w64 (n:=a-c) om om,w64 (n:=b-a) om om]
  refine⟨?_,by unfold ne;omega,by unfold ne;omega⟩
  congr 1
  unfold ne
  split<;>split<;>omega
 have q:∀x:Int,0<=x∧x<=120->cO x=some (x*x):=fun x hx=>by
  have:=mw (x:=x) om
  unfold cO
  rw [w64 om om]
 obtain⟨p1,p2,p3⟩:=id hp
 obtain⟨x1,x2,x3⟩:=e p.fX b.aF.fX b.az.fX p1 l1 g1
 obtain⟨y1,y2,y3⟩:=e p.fY b.aF.fY b.az.fY p2 l2 g2
 obtain⟨z1,z2,z3⟩:=e p.fZ b.aF.fZ b.az.fZ p3 l3 g3
 have sx:=mw (x:=ne p.fX b.aF.fX b.az.fX) om
 have sy:=mw (x:=ne p.fY b.aF.fY b.az.fY) om
 have sz:=mw (x:=ne p.fZ b.aF.fZ b.az.fZ) om
 unfold lL
 rw [hv,zc,if_neg sm,iV hp,zc,if_neg sm,x1,zc,q _ ⟨x2,x3⟩,zc,y1,zc,q _ ⟨y2,y3⟩,zc,z1,zc,q _ ⟨z2,z3⟩,zc]
 rw [w64 (n:=ne p.fX b.aF.fX b.az.fX*ne p.fX b.aF.fX b.az.fX+ne p.fY b.aF.fY b.az.fY*ne p.fY b.aF.fY b.az.fY) om om,w64 om om]
 rfl
theorem rfar_at{b:ag}(hb:dN b){p:aa}(hp:dg 60 p):mK b p=some (lf b p):=by
 obtain⟨⟨l1,l2,l3⟩,g1,g2,g3⟩:=gi hb
 have hv:=gY hb
 obtain⟨-,s1,s2,s3⟩:=id hb
 have e:∀a b c:Int, -60<=a∧a<=60-> -60<=b∧b<=60-> -60<=c∧c<=60->b<=c->jQ b c a=some (fa a b c)∧0<=fa a b c∧fa a b c<=120:=fun a b c ha hb hc hbc=>by
  unfold jQ
  rw [w64 (n:=c-a) om om,w64 (n:=a-b) om om]
  refine⟨?_,by unfold fa;omega,by unfold fa;omega⟩
  congr 1
  unfold fa
  split<;>omega
 have q:∀x:Int,0<=x∧x<=120->cO x=some (x*x):=fun x hx=>by
  have:=mw (x:=x) om
  unfold cO
  rw [w64 om om]
 obtain⟨p1,p2,p3⟩:=id hp
 obtain⟨x1,x2,x3⟩:=e p.fX b.aF.fX b.az.fX p1 l1 g1 om
 obtain⟨y1,y2,y3⟩:=e p.fY b.aF.fY b.az.fY p2 l2 g2 om
 obtain⟨z1,z2,z3⟩:=e p.fZ b.aF.fZ b.az.fZ p3 l3 g3 om
 have sx:=mw (x:=fa p.fX b.aF.fX b.az.fX) om
 have sy:=mw (x:=fa p.fY b.aF.fY b.az.fY) om
 have sz:=mw (x:=fa p.fZ b.aF.fZ b.az.fZ) om
 unfold mK
 rw [hv,zc,if_neg sm,iV hp,zc,if_neg sm,x1,zc,q _ ⟨x2,x3⟩,zc,y1,zc,q _ ⟨y2,y3⟩,zc,z1,zc,q _ ⟨z2,z3⟩,zc]
 rw [w64 (n:=fa p.fX b.aF.fX b.az.fX*fa p.fX b.aF.fX b.az.fX+fa p.fY b.aF.fY b.az.fY*fa p.fY b.aF.fY b.az.fY) om om,w64 om om]
 rfl
theorem rbetween_at{t:aq}(ht:ly t){a b:Int}(ha:0<=a)(hab:a<=b)(hb:b<=65535)(hr:Reach t b):jd t a b=bI t a b:=by
 obtain⟨x,c,u,e,⟨x0,x1⟩,⟨x2,x3⟩,⟨c0,c1,c2⟩,⟨u0,u1⟩,u2,u3,u4⟩:=na ht a b ha hab hb hr
 rw [e]
 have hl:=ht.len;have hs:=ht.same;have hst:=ht.step
 have hbb:0<=t.aQ*((t.aF.length:Int)-1)∧t.aQ*((t.aF.length:Int)-1)<=100*30:=⟨Int.mul_nonneg om om,Int.mul_le_mul om om om om⟩
 refine Ok.eq ?_
 unfold jd
 rw [ko ht,zc,if_neg sm]
 refine Ok.nS (fun _=>om) (fun _=>Ok.nS (fun _=>om) (fun _=>?_))
 have ce:Ok (iR b) (fun r=>r=c):=(rceil_ok b om hb).mono fun r⟨r0,r1,r2⟩=>by
  have:=r2 c c0 c1
  have:=c2 r r0 r1
  omega
 refine Ok.bind ce (fun r hr=>?_)
 subst hr
 have re:kI t=some (kg t):=by
  unfold kI
  rw [ko ht,zc,if_neg sm,w64 (n:=(t.aF.length:Int)-1) om om,w64 om om]
  rfl
 rw [re,zc]
 refine Ok.nS (fun h=>om) (fun _=>?_)
 refine Ok.bind ((rfloor_ok a ha om).mono fun r⟨r0,r1,r2⟩=>sq_uniq r0 x0 r1 r2 x2 x3) (fun r hr=>?_)
 subst hr
 have hq0:0<=r.tdiv t.aQ:=Int.tdiv_nonneg x0 om
 refine Ok.bind (P:=fun y=>y=t.aF.getD (r.tdiv t.aQ).toNat 0) ?_ (fun y hy=>?_)
 ·unfold mo
  refine Ok.bind (Ok.quo om) (fun q hq=>?_)
  rw [w64 om om]at hq
  subst hq
  refine Ok.bind (Ok.get hq0 om) (fun y hy=>Ok.ret ?_)
  rw [List.getD_eq_getElem?_getD,hy.2];rfl
 refine Ok.bind ce (fun r' hr'=>?_)
 subst hr'
 refine Ok.bind (P:=fun y=>y=t.az.getD u.toNat 0) ?_ (fun z hz=>Ok.ret (by rw [hy,hz]))
 have hc:r'<=3000:=by unfold kg at u4;omega
 unfold mp
 rw [w64 (n:=r'+t.aQ) om om,w64 (n:=r'+t.aQ-1) om om]
 refine Ok.bind (Ok.quo om) (fun q hq=>?_)
 have hd:(r'+t.aQ-1).tdiv t.aQ=u:=by
  rw [Int.tdiv_eq_ediv_of_nonneg om]
  have h1:u<=(r'+t.aQ-1) / t.aQ:=by
   rw [Int.le_ediv_iff_mul_le om]
   rcases Int.lt_or_eq_of_le u0 with h|h
   ·have:=u3 (u-1) om om
    rw [Int.sub_mul,Int.one_mul]at this;omega
   ·rw [<-h];omega
  have h2:(r'+t.aQ-1) / t.aQ<=u:=by
   have:(r'+t.aQ-1) / t.aQ<u+1:=by
    rw [Int.ediv_lt_iff_lt_mul om,Int.add_mul,Int.one_mul];omega
   omega
  omega
 rw [hd,w64 om om]at hq
 subst hq
 refine Ok.bind (Ok.get u0 om) (fun y hy=>Ok.ret ?_)
 rw [List.getD_eq_getElem?_getD,hy.2];rfl
theorem rzone_at{q:ae}(hq:PV q){b:ag}(h:Sub q.aG b){a:aC}(ha:a∈q.aN):kk q.aS b a=some (zn q b a,0)∧Ok (e7 q.aS b a.aM) (fun r=>r.2.2=0):=by
 have hz:=(zn_at hq h ha).1
 obtain⟨hv,hr⟩:=hq.ph a ha
 have hb:=h.ok hq.box hq.reg
 obtain⟨hp,p1,p2,p3,p4⟩:=id hv
 have hva:cj a=some true:=by
  unfold cj
  rw [eZ hp,zc,if_pos rfl,if_pos (by simpa using p1),if_pos (by simpa using p2),if_pos (by simpa using p3),if_pos (by simp [p4])]
  simp [p4]
 obtain⟨n1,n2, -⟩:=mA hb hp
 obtain⟨f1, -,f3⟩:=Far_at hb hp
 have hbt:=rbetween_at hq.tab n2 (lq hb a.aM) om (Int.le_trans (nC h _) hr)
 have e2:e7 q.aS b a.aM=cL q.aS b a.aM:=by
  unfold e7 cL fI
  rw [ko hq.tab,dW hq.tab,gY hb,cr hb,iV hp,eZ hp,rnear_at hb hp,rfar_at hb hp,n1,f1]
  simp only [zc]
  rw [if_neg sm,if_neg sm,if_neg sm,if_neg sm,if_neg sm,if_neg sm,hbt]
 have e1:kk q.aS b a=cf q.aS b a:=by
  unfold kk cf
  rw [ko hq.tab,dW hq.tab,gY hb,cr hb,nP hv,hva,e2]
  simp only [zc,bne_self_eq_false,Bool.false_eq_true,if_false,Bool.not_true]
 refine⟨by rw [e1,hz],?_⟩
 rw [e2]
 unfold cf at hz
 rw [dW hq.tab,cr hb,hva]at hz
 simp only [zc]at hz
 rw [if_neg sm,if_neg sm,if_neg sm]at hz
 rcases hi:cL q.aS b a.aM with _|r
 ·rw [hi]at hz;cases hz
 refine⟨r,rfl,?_⟩
 rw [hi,zc]at hz
 by_cases h0:r.2.2=0
 ·exact h0
 ·rw [if_pos (by simpa using h0)]at hz
  exact((Prod.mk.inj (Option.some.inj hz)).2)
theorem rvalidate_at{q:ae}(hq:PV q):iy q=some 0:=by
 have hl:=hq.len;have hc:=hq.cap
 refine Ok.eq ?_
 unfold iy
 rw [gY hq.box,zc,if_neg sm,ko hq.tab,zc,if_neg sm]
 refine Ok.pT (fun h=>om) (fun _=>Ok.nS (fun h=>om) (fun _=>Ok.nS (fun h=>om) (fun _=>Ok.nS (fun h=>om) (fun _=>?_))))
 refine Ok.bind (P:=fun o=>o= .inl ()) (Ok.upto q.aN.length om (fun _=>True) trivial (fun i h0 h1 _=>?_)) (fun o ho=>by subst ho;exact Ok.ret rfl)
 unfold kl
 refine Ok.nS (fun hlt=>?_) (fun _=>Ok.st rfl)
 refine Ok.bind (Ok.get om om) (fun a ha=>?_)
 rw [nP (hq.ph a ha.1).1,zc,if_neg sm]
 refine Ok.bind (Ok.get om om) (fun a' ha'=>?_)
 refine Ok.bind (rzone_at hq (Sub.refl hq.box) ha'.1).2 (fun z hz=>?_)
 refine Ok.oT (fun h=>(h hz).elim) (fun _=>?_)
 rw [w64 om om]
 exact Ok.nx ⟨⟨om,om⟩,trivial⟩ om
theorem rwithin_at{r b:ag}(hr:dN r)(hp:dg 20 r.aF)(h:Sub r b):jJ b r=some true:=by
 have hb:=gY (h.ok hr hp)
 have hrv:=gY hr
 obtain⟨x,y,z⟩:=h
 unfold jJ iw
 rw [hb,hrv]
 simp only [zc,if_true]
 rw [if_pos so,if_pos so,if_pos so,if_pos so,if_pos so]
 simp only [zc]
 rw [if_pos so,if_pos so,if_pos so,if_pos so,if_pos so,if_pos so]
 simp;omega
theorem rzones_at{q:ae}(hq:PV q){b:ag}(h:Sub q.aG b):kL q b=some (q.aN.map (zn q b),0):=by
 have hl:=hq.len
 refine Ok.eq ?_
 unfold kL
 rw [rvalidate_at hq,zc,if_neg sm,rwithin_at hq.box hq.reg h,zc,if_neg sm]
 refine Ok.bind (P:=fun o=>o=q.aN.map (zn q b)) (Ok.loop (fun s:Int×List al=>(0<=s.1∧s.1<=q.aN.length)∧s.2=(q.aN.take s.1.toNat).map (zn q b)) (fun s=>((q.aN.length:Int)-s.1).toNat) ?_ ⟨⟨sm,sm⟩,sm⟩) (fun o ho=>by subst ho;exact Ok.ret rfl)
 rintro⟨s2,s3⟩ ⟨⟨i0,i1⟩,i2⟩
 simp only at i0 i1 i2
 subst i2
 unfold lX
 refine Ok.nS (fun hlt=>?_) (fun _=>Ok.st (by rw [List.take_of_length_le om]))
 refine Ok.bind (Ok.get om om) (fun a ha=>?_)
 rw [(rzone_at hq h ha.1).1,zc]
 have ht:(List.map (zn q b) (List.take s2.toNat q.aN)).length<=64:=by rw [List.length_map,List.length_take];omega
 refine Ok.bind (Ok.app (by simp only [List.length_cons,List.length_nil];omega)) (fun y hy=>?_)
 subst hy
 rw [w64 om om]
 refine Ok.nx ⟨⟨za,za⟩,?_⟩ za
 simp only
 rw [show(s2+1).toNat=s2.toNat+1 by omega,List.take_add_one,ha.2]
 simp
theorem rcost_at{q:ae}(hq:PV q){l:List al}(hll:l.length=q.aN.length)(hz:∀z∈l,dj z){t:Int}(ht: -5000<=t∧t<=18014398509481984):iT q l t=some (bw q.bN q.aN l t):=by
 have hl:=hq.len;have hc:=hq.cap
 refine Ok.eq ?_
 unfold iT
 refine Ok.bind (P:=fun o=>o=bw q.bN q.aN l t) (Ok.loop (fun s:Int×Int=>(0<=s.2∧s.2<=q.aN.length)∧(0<=s.1∧s.1<=1000*s.2)∧s.1+bw q.bN (q.aN.drop s.2.toNat) (l.drop s.2.toNat) t=bw q.bN q.aN l t) (fun s=>((q.aN.length:Int)-s.2).toNat) ?_ ⟨⟨sm,sm⟩,⟨sm,sm⟩,sm⟩) (fun o ho=>by subst ho;exact Ok.ret rfl)
 rintro⟨s1,s2⟩ ⟨⟨i0,i1⟩,⟨i2,i3⟩,i4⟩
 simp only at i0 i1 i2 i3 i4
 unfold m7
 refine Ok.nS (fun hlt=>?_) (fun hge=>Ok.st ?_)
 rotate_left
 ·rw [List.drop_eq_nil_of_le om]at i4
  simp [bw]at i4;exact i4
 refine Ok.bind (Ok.get om om) (fun a ha=>?_)
 refine Ok.bind (Ok.get om om) (fun z hz'=>?_)
 have hr:ix z t=some (res z t):=by
  obtain⟨z1,z2,z3⟩:=hz z hz'.1
  unfold ix
  rw [w64 (n:=t-z.fTo) om om,w64 (n:=z.aT-t) om om]
  congr 1
  unfold res
  split<;>split<;>omega
 rw [hr,zc,w64 (n:=s2+1) om om]
 have hw:a.bt=1:=(hq.ph a ha.1).1.weight
 have e1:(if res z t<q.bN then res z t else q.bN)=min q.bN (res z t):=by split<;>omega
 have hr:0<=res z t:=by unfold res;omega
 have e2:gG q.bN a.bt z t=min q.bN (res z t):=by unfold gG;rw [hw,Int.one_mul]
 rw [e1,hw,Int.one_mul,w64 (n:=min q.bN (res z t)) om om,w64 om om]
 refine Ok.nx ⟨⟨za,za⟩,⟨za,za⟩,?_⟩ za
 simp only
 rw [show(s2+1).toNat=s2.toNat+1 by omega]
 obtain⟨j1,ea⟩:=List.getElem?_eq_some_iff.1 ha.2
 obtain⟨j2,ez⟩:=List.getElem?_eq_some_iff.1 hz'.2
 rw [List.drop_eq_getElem_cons j1,List.drop_eq_getElem_cons j2,ea,ez]at i4
 have i5:s1+(gG q.bN a.bt z t+bw q.bN (q.aN.drop (s2.toNat+1)) (l.drop (s2.toNat+1)) t)=bw q.bN q.aN l t:=i4
 rw [e2]at i5
 omega
theorem rbest_at{q:ae}(hq:PV q){l:List al}(hll:l.length=q.aN.length)(hz:∀z∈l,dj z):Ok (lN q l) (nq q l):=by
 have hl:=hq.len
 have hend:∀e∈ends l, -5000<=e∧e<=18014398509481984:=by
  intro e he
  obtain⟨z,h1,h2⟩:=me.1 he
  obtain⟨z1,z2,z3⟩:=hz z h1
  omega
 have memF:∀z∈l,z.aT∈ends l:=fun z h=>me.2 ⟨z,h,.inl rfl⟩
 have memT:∀z∈l,z.fTo∈ends l:=fun z h=>me.2 ⟨z,h,.inr rfl⟩
 unfold lN
 refine Ok.bind (Ok.get om om) (fun x1 g1=>?_)
 refine Ok.bind (Ok.get om om) (fun x2 g2=>?_)
 obtain rfl:x2=x1:=Option.some.inj (g2.2.symm.trans g1.2)
 rw [rcost_at hq hll hz (hend _ (memF _ g1.1)),zc]
 let J:Int×Int×Int->Prop:=fun s=>(0<=s.2.2∧s.2.2<=l.length)∧s.1∈ends l∧s.2.1=bw q.bN q.aN l s.1∧∀(i:Nat)z,l[i]? =some z->i<s.2.2.toNat->s.2.1<=bw q.bN q.aN l z.aT∧s.2.1<=bw q.bN q.aN l z.fTo
 refine Ok.bind (P:=fun o=>nq q l o) (Ok.loop J (fun s=>((l.length:Int)-s.2.2).toNat) ?_ ⟨⟨sm,sm⟩,memF _ g1.1,rfl,fun i z _ hi=>by simp at hi⟩) (fun o ho=>Ok.ret ho)
 rintro⟨s1,s2,s3⟩ ⟨⟨i0,i1⟩,i2,i3,i4⟩
 simp only at i0 i1 i2 i3 i4
 unfold mq
 refine Ok.nS (fun hlt=>?_) (fun hge=>Ok.st ⟨i2,i3,fun e he=>?_⟩)
 rotate_left
 ·obtain⟨z,hz1,hz2⟩:=me.1 he
  obtain⟨i,hi,rfl⟩:=List.getElem_of_mem hz1
  have:=i4 i _ (zd hi) om
  rcases hz2 with rfl|rfl
  ·exact this.1
  ·exact this.2
 refine Ok.bind (Ok.get om om) (fun x11 h11=>?_)
 refine Ok.bind (Ok.get om om) (fun x12 h12=>?_)
 obtain rfl:x12=x11:=Option.some.inj (h12.2.symm.trans h11.2)
 rw [rcost_at hq hll hz (hend _ (memF _ h11.1)),zc]
 have A:∀(u v:Int),u∈ends l->v=bw q.bN q.aN l u->v<=s2->v<=bw q.bN q.aN l x12.aT->v<=bw q.bN q.aN l x12.fTo->Ok (d5 s3 u v) (Ok.S J (fun s=>((l.length:Int)-s.2.2).toNat) (nq q l) (s1,s2,s3)):=fun u v h1 h2 h3 h4 h5=>by
  unfold d5
  rw [w64 om om]
  refine Ok.nx ⟨⟨za,za⟩,h1,h2,fun i z he hi=>?_⟩ za
  simp only at hi⊢
  rcases Nat.lt_or_ge i s3.toNat with h|h
  ·have:=i4 i z he h
   omega
  ·have:i=s3.toNat:=by omega
   subst this
   rw [h11.2]at he
   cases he;exact⟨h4,h5⟩
 have B:∀(u v:Int),u∈ends l->v=bw q.bN q.aN l u->v<=s2->v<=bw q.bN q.aN l x12.aT->Ok (d6 q l x12 s3 u v) (Ok.S J (fun s=>((l.length:Int)-s.2.2).toNat) (nq q l) (s1,s2,s3)):=fun u v h1 h2 h3 h4=>by
  unfold d6
  rw [rcost_at hq hll hz (hend _ (memT _ h11.1)),zc]
  exact Ok.nS (fun h=>A _ _ (memT _ h11.1) rfl om om (Int.le_refl _)) (fun h=>Ok.pT (fun h'=>Ok.nS (fun _=>A _ _ (memT _ h11.1) rfl om om (Int.le_refl _)) (fun _=>A _ _ h1 h2 h3 h4 om)) (fun _=>A _ _ h1 h2 h3 h4 om))
 exact Ok.nS (fun h=>B _ _ (memF _ h11.1) rfl om (Int.le_refl _)) (fun h=>Ok.pT (fun h'=>Ok.nS (fun _=>B _ _ (memF _ h11.1) rfl om (Int.le_refl _)) (fun _=>B _ _ i2 i3 (Int.le_refl _) om)) (fun _=>B _ _ i2 i3 (Int.le_refl _) om))
theorem rat_at{q:ae}(hq:PV q){p:aa}(h:In q.aG p):Ok (nM q p) (fun r=>r.2.1=mis q p):=by
 obtain⟨t', -,k1,k2,k3⟩:=mis_at hq h
 unfold nM ref26_One
 rw [zc,rzones_at hq h,zc,if_neg sm]
 refine Ok.bind (rbest_at hq (l:=q.aN.map (zn q ⟨p,p⟩)) sm (fun z hz=>by obtain⟨a,ha,rfl⟩:=List.mem_map.1 hz;exact(zn_at hq h ha).2)) (fun r⟨r1,r2,r3⟩=>Ok.ret ?_)
 simp only at k1 k2 k3⊢
 have:=r3 _ k1
 have:=k3 _ r1
 omega
theorem all_ok{b:ag}(hb:dN b):Ok (mJ b) (fun l=>(∀p∈l,In b p)∧1<=l.length∧l.length<=64):=by
 obtain⟨⟨l1,l2,l3⟩,g1,g2,g3⟩:=gi hb
 obtain⟨-,d1,d2,d3⟩:=id hb
 unfold mJ
 refine Ok.bind (P:=fun l=>(∀p∈l,In b p)∧1<=l.length∧l.length<=64) (Ok.loop (fun s:Int×List aa=>(b.aF.fX<=s.1∧s.1<=b.az.fX+1)∧(∀p∈s.2,In b p)∧(s.1-b.aF.fX<=s.2.length∧(s.2.length:Int)<=16*(s.1-b.aF.fX))) (fun s=>(b.az.fX+1-s.1).toNat) ?_ ⟨⟨sm,za⟩,sm,sm,sm⟩) (fun o ho=>Ok.ret ho)
 rintro⟨s1,s2⟩ ⟨⟨i0,i1⟩,i2,i3,i4⟩
 simp only at i0 i1 i2 i3 i4
 unfold m5
 refine Ok.nS (fun hle=>?_) (fun hgt=>Ok.st ⟨i2,om,om⟩)
 refine Ok.bind (P:=fun o:Int×List aa=>o.1=s1∧(∀p∈o.2,In b p)∧(s1+1-b.aF.fX<=o.2.length∧(o.2.length:Int)<=16*(s1+1-b.aF.fX))) (Ok.loop (fun s:Int×Int×List aa=>s.1=s1∧(b.aF.fY<=s.2.1∧s.2.1<=b.az.fY+1)∧(∀p∈s.2.2,In b p)∧((s2.length:Int)+(s.2.1-b.aF.fY)<=s.2.2.length∧(s.2.2.length:Int)<=s2.length+4*(s.2.1-b.aF.fY))) (fun s=>(b.az.fY+1-s.2.1).toNat) ?_ ⟨rfl,⟨sm,za⟩,i2,sm,sm⟩) (fun o⟨h1,h2,h3,h4⟩=>?_)
 rotate_left
 ·rw [h1,w64 om om]
  exact Ok.nx ⟨⟨za,za⟩,h2,za,za⟩ za
 rintro⟨t1,t2,t3⟩ ⟨rfl,⟨j0,j1⟩,j2,j3,j4⟩
 simp only at j0 j1 j2 j3 j4
 unfold mZ
 refine Ok.nS (fun hle2=>?_) (fun hgt=>Ok.st ⟨rfl,j2,za,za⟩)
 refine Ok.bind (P:=fun o:Int×Int×List aa=>(o.1=t1∧o.2.1=t2)∧(∀p∈o.2.2,In b p)∧((t3.length:Int)+1<=o.2.2.length∧(o.2.2.length:Int)<=t3.length+4)) (Ok.loop (fun s:Int×List aa=>(b.aF.fZ<=s.1∧s.1<=b.az.fZ+1)∧(∀p∈s.2,In b p)∧(s.2.length:Int)=t3.length+(s.1-b.aF.fZ)) (fun s=>(b.az.fZ+1-s.1).toNat) ?_ ⟨⟨sm,za⟩,j2,sm⟩) (fun o⟨⟨h1,h2⟩,h3,h4,h5⟩=>?_)
 rotate_left
 ·rw [h2,w64 om om]
  exact Ok.nx ⟨h1,⟨za,za⟩,h3,za,za⟩ za
 rintro⟨u1,u2⟩ ⟨⟨k0,k1⟩,k2,k3⟩
 simp only at k0 k1 k2 k3
 unfold mY
 refine Ok.nS (fun hle3=>?_) (fun hgt=>Ok.st ⟨⟨rfl,rfl⟩,k2,za,za⟩)
 refine Ok.bind (Ok.app (by simp only [List.length_cons,List.length_nil];omega)) (fun y hy=>?_)
 subst hy
 rw [w64 om om]
 refine Ok.nx ⟨⟨za,za⟩,fun p hp=>?_,by simp only [List.length_append,List.length_cons,List.length_nil];omega⟩ za
 rcases List.mem_append.1 hp with h|h
 ·exact k2 p h
 ·rw [List.mem_singleton.1 h]
  exact⟨za,za,za⟩
theorem least_ok{q:ae}(hq:PV q):Ok (kK q) (fun r=>∃p,In q.aG p∧r=mis q p):=by
 unfold kK
 refine Ok.bind (all_ok hq.box) (fun l⟨l1,l2,l3⟩=>?_)
 refine Ok.bind (P:=fun r=>∃p,In q.aG p∧r=mis q p) (Ok.loop (fun s:Int×Int=>(0<=s.2∧s.2<=l.length)∧((s.2=0∧s.1= -1)∨∃p,In q.aG p∧s.1=mis q p)) (fun s=>((l.length:Int)-s.2).toNat) ?_ ⟨⟨sm,sm⟩,.inl ⟨rfl,rfl⟩⟩) (fun o ho=>Ok.ret ho)
 rintro⟨s1,s2⟩ ⟨⟨i0,i1⟩,i2⟩
 simp only at i0 i1 i2
 unfold lW
 refine Ok.nS (fun hlt=>?_) (fun hge=>Ok.st ?_)
 rotate_left
 ·rcases i2 with h|h
  ·omega
  ·exact h
 refine Ok.bind (Ok.get om om) (fun p hp=>?_)
 refine Ok.bind (rat_at hq (l1 p hp.1)) (fun r hr=>?_)
 rw [w64 om om]
 have new:∃x,In q.aG x∧r.2.1=mis q x:=⟨p,l1 p hp.1,hr⟩
 refine Ok.nS (fun _=>Ok.nx ⟨⟨za,za⟩,.inr new⟩ za) (fun h0=>Ok.nS (fun _=>Ok.nx ⟨⟨za,za⟩,.inr new⟩ za) (fun _=>Ok.nx ⟨⟨za,za⟩,.inr ?_⟩ za))
 rcases i2 with h|h
 ·omega
 ·exact h
end Go.Dw.Lt
set_option maxRecDepth 100000
set_option maxHeartbeats 4000000
namespace Go.Dw.Lt
open Go.Dw Go.Proofs
theorem shr30{n:Int}(h0:0<=n):oj .i64 n 30=n / 1073741824:=by
 show n.fdiv (2 ^ (min (30:Int).toNat 64))=n / 1073741824
 rw [Int.fdiv_eq_ediv_of_nonneg _ (by decide)]
 rfl
theorem from_ok{n:Int}(h:n<=9223372036854775808):Ok (nI n) (fun r=>r.1.length<=3):=by
 unfold nI
 refine Ok.nS (fun _=>Ok.ret sm) (fun h0=>?_)
 refine Ok.bind (P:=fun o:List Int=>o.length<=3) (Ok.loop (fun s:Int×List Int=>0<=s.1∧s.2.length<=3∧s.1<1073741824 ^ (3-s.2.length)) (fun s=>s.1.toNat) ?_ ⟨za,sm,by simp only [List.length_nil];omega⟩) (fun o ho=>Ok.ret ho)
 rintro⟨s2,s3⟩ ⟨i0,i1,i2⟩
 simp only at i0 i1 i2
 unfold nat_From_l9
 refine Ok.nS (fun hgt=>?_) (fun _=>Ok.st i1)
 refine Ok.bind (Ok.rem om) (fun x _=>?_)
 refine Ok.bind (Ok.app (by simp only [List.length_cons,List.length_nil];omega)) (fun y hy=>?_)
 subst hy
 rw [shr30 i0]
 have h3:s3.length≠3:=fun e=>by rw [e]at i2;simp at i2;omega
 refine Ok.nx ⟨za,by simp only [List.length_append,List.length_cons,List.length_nil];omega,?_⟩ za
 simp only [List.length_append,List.length_cons,List.length_nil]
 rw [show 3-s3.length=(3-(s3.length+(0+1)))+1 by omega,Int.pow_succ]at i2
 exact Int.ediv_lt_of_lt_mul om i2
theorem iP(l:List Int)(hl:l.length<=1000):Ok (hZ l) (fun r=>r=true->l.length<=64):=by
 have hc:Ok (bV l) (fun _=>True):=by
  unfold bV d8
  refine Ok.bind (P:=fun _=>True) ?_ (fun o _=>Ok.ret trivial)
  refine Ok.bind (P:=fun _=>True) (Ok.upto l.length om (fun _=>True) trivial (fun i h0 h1 _=>?_)) (fun o _=>by rcases o with _|_<;>exact Ok.ret trivial)
  unfold ff ke
  refine Ok.nS (fun hlt=>?_) (fun _=>Ok.st trivial)
  refine Ok.bind (Ok.get om om) (fun a ha=>?_)
  refine Ok.bind (P:=fun _=>True) (Ok.nS (fun _=>Ok.ret trivial) (fun _=>Ok.ret trivial)) (fun b _=>?_)
  rw [w64 om om]
  exact Ok.u6 (fun _=>Ok.st trivial) (fun _=>Ok.nx ⟨⟨om,om⟩,trivial⟩ om)
 unfold hZ
 refine Ok.nS (fun _=>Ok.ret sm) (fun hle=>Ok.nS (fun hgt=>?_) (fun _=>?_))
 ·rw [w64 om om]
  refine Ok.bind (Ok.get om om) (fun a _=>Ok.pT (fun _=>Ok.ret sm) (fun _=>?_))
  exact Ok.bind hc (fun _ _=>Ok.ret fun _=>om)
 ·exact Ok.bind hc (fun _ _=>Ok.ret fun _=>om)
theorem digit_ok{l:List Int}{i:Int}(h:0<=i):Ok (jP l i) (fun _=>True):=by
 unfold jP
 refine Ok.nS (fun _=>Ok.ret trivial) (fun hlt=>?_)
 exact Ok.bind (Ok.get h om) (fun _ _=>Ok.ret trivial)
theorem trim_ok{l:List Int}(hl:l.length<=1000):Ok (mj l) (fun r=>r.length<=l.length):=by
 unfold mj
 refine Ok.bind (P:=fun o:List Int=>o.length<=l.length) (Ok.loop (fun s:List Int=>s.length<=l.length) (fun s=>s.length) ?_ (Nat.le_refl _)) (fun o ho=>Ok.ret ho)
 intro s i0
 unfold nat_trim_l8
 refine Ok.nS (fun hgt=>?_) (fun _=>Ok.st i0)
 rw [w64 om om]
 refine Ok.bind (Ok.get om om) (fun a _=>Ok.pT (fun _=>?_) (fun _=>Ok.st i0))
 refine Ok.bind (Ok.cut om om om) (fun y hy=>?_)
 subst hy
 have:((s.drop (0:Int).toNat).take (((s.length:Int)-1).toNat-(0:Int).toNat)).length=s.length-1:=by
  simp only [List.length_take,List.length_drop];omega
 exact Ok.nx (by rw [this];omega) (by rw [this];omega)
theorem lH{l:List Int}(hl:l.length<=1000):Ok (f5 l) (fun r=>r.1.length<=64):=by
 unfold f5
 refine Ok.bind (trim_ok hl) (fun x hx=>Ok.nS (fun _=>Ok.ret sm) (fun _=>Ok.ret za))
theorem mh{a b:List Int}(ha:a.length<=64)(hb:b.length<=64):Ok (gq a b) (fun r=>r.length<=128):=by
 unfold gq
 rw [w64 om om]
 refine Ok.bind (Ok.mk om om om) (fun x hx=>?_)
 have hxl:x.length=a.length+b.length:=by subst hx;simp;omega
 refine Ok.bind (P:=fun o:List Int=>o.length=a.length+b.length) (Ok.loop (fun s:Int×List Int=>(0<=s.1∧s.1<=a.length)∧s.2.length=a.length+b.length) (fun s=>((a.length:Int)-s.1).toNat) ?_ ⟨⟨sm,sm⟩,hxl⟩) (fun o ho=>?_)
 ·rintro⟨s2,s3⟩ ⟨⟨i0,i1⟩,i2⟩
  simp only at i0 i1 i2
  unfold lp
  refine Ok.nS (fun hlt=>?_) (fun _=>Ok.st i2)
  refine Ok.bind (Ok.get om om) (fun y _=>?_)
  refine Ok.bind (P:=fun o:Int×List Int=>o.1=s2∧o.2.length=a.length+b.length) (Ok.loop (fun s:Int×Int×List Int=>(0<=s.2.1∧s.2.1<=(b.length:Int)+1)∧s.2.2.length=a.length+b.length) (fun s=>((b.length:Int)+1-s.2.1).toNat) ?_ ⟨⟨sm,za⟩,i2⟩) (fun o ho=>?_)
  ·rintro⟨s8,s9,s10⟩ ⟨⟨j0,j1⟩,j2⟩
   simp only at j0 j1 j2
   unfold ln
   dsimp only
   rw [w64 (n:=(b.length:Int)+1) om om]
   refine Ok.nS (fun hlt=>?_) (fun _=>Ok.st ⟨rfl,j2⟩)
   rw [w64 (n:=s2+s9) om om,w64 (n:=s9+1) om om]
   refine Ok.nS (fun hlt2=>?_) (fun _=>Ok.nx ⟨⟨za,za⟩,j2⟩ za)
   refine Ok.bind (Ok.pf om om) (fun _ _=>Ok.bind (Ok.get om om) (fun x18 _=>?_))
   refine Ok.bind (digit_ok j0) (fun x19 _=>?_)
   refine Ok.bind (Ok.rem om) (fun x20 _=>?_)
   refine Ok.bind (Ok.pf om om) (fun _ _=>Ok.bind (Ok.set om om) (fun x23 h23=>?_))
   subst h23
   exact Ok.nx ⟨⟨za,za⟩,by simpa using j2⟩ za
  ·obtain⟨h1,h2⟩:=ho
   rw [h1,w64 om om]
   exact Ok.nx ⟨⟨za,za⟩,h2⟩ za
 ·refine Ok.bind (trim_ok om) (fun r hr=>Ok.ret om)
theorem mul_ok{a b:List Int}(ha:a.length<=64)(hb:b.length<=64):Ok (nat_Mul a b) (fun r=>r.1.length<=64):=by
 unfold nat_Mul mi
 refine Ok.bind (P:=fun _=>True) (Ok.bind (iP a om) (fun x _=>Ok.u6 (fun _=>Ok.bind (iP b om) (fun _ _=>Ok.ret trivial)) (fun _=>Ok.ret trivial))) (fun x _=>?_)
 refine Ok.tu (fun _=>Ok.ret sm) (fun _=>?_)
 exact Ok.bind (mh ha hb) (fun y hy=>Ok.bind (lH om) (fun z hz=>Ok.ret hz))
theorem add_ok'{a b:List Int}(ha:a.length<=64)(hb:b.length<=64):Ok (nat_Add a b) (fun r=>r.1.length<=64):=by
 unfold nat_Add mi
 refine Ok.bind (P:=fun _=>True) (Ok.bind (iP a om) (fun x _=>Ok.u6 (fun _=>Ok.bind (iP b om) (fun _ _=>Ok.ret trivial)) (fun _=>Ok.ret trivial))) (fun x _=>?_)
 refine Ok.tu (fun _=>Ok.ret sm) (fun _=>?_)
 have hm:∃m:Int,(if(b.length:Int)>(a.length:Int)then(b.length:Int)else(a.length:Int))=m∧0<=m∧m<=64:=⟨_,rfl,by split<;>omega,by split<;>omega⟩
 obtain⟨m,em,m0,m1⟩:=hm
 refine Ok.bind (P:=fun o:List Int=>o.length<=65) (Ok.loop (fun s:Int×Int×List Int=>(0<=s.2.1∧s.2.1<=m+1)∧s.2.2.length=s.2.1.toNat) (fun s=>(m+1-s.2.1).toNat) ?_ ⟨⟨sm,za⟩,rfl⟩) (fun o ho=>Ok.bind (lH om) (fun z hz=>Ok.ret hz))
 rintro⟨s3,s4,s5⟩ ⟨⟨i0,i1⟩,i2⟩
 simp only at i0 i1 i2
 unfold nat_Add_l13
 dsimp only
 rw [em,w64 (n:=m+1) om om]
 refine Ok.nS (fun hlt=>?_) (fun _=>Ok.st om)
 refine Ok.bind (digit_ok i0) (fun x9 _=>Ok.bind (digit_ok i0) (fun x10 _=>?_))
 refine Ok.bind (Ok.rem om) (fun x11 _=>?_)
 refine Ok.bind (Ok.app (by simp only [List.length_cons,List.length_nil];omega)) (fun y hy=>?_)
 subst hy
 rw [w64 (n:=s4+1) om om]
 exact Ok.nx ⟨⟨za,za⟩,by simp only [List.length_append,List.length_cons,List.length_nil];omega⟩ za
def I64(a:Int):Prop:= -9223372036854775808<=a∧a<=9223372036854775807
theorem mz(a:Int):I64 (IntKind.wrap .i64 a):=by
 unfold I64;rw [IntKind.wrap_i64];omega
theorem jR{a:Int}(h:I64 a):Ok (cw a) (fun r=>r.length<=64):=by
 unfold cw
 have h0:=mz (0-a)
 unfold I64 at h h0
 refine Ok.bind (from_ok (by split<;>omega)) (fun x hx=>?_)
 exact Ok.bind (mul_ok om om) (fun y hy=>Ok.ret hy)
theorem squared_ok{a:aO}{n d:Int}:Ok (e9 a n d) (fun r=>r.length<=64):=by
 unfold e9
 refine Ok.bind (jR (mz _)) (fun x hx=>Ok.bind (jR (mz _)) (fun y hy=>?_))
 exact Ok.bind (add_ok' hx hy) (fun z hz=>Ok.ret hz)
theorem sum_okR(l:List Int)(hl:l.length<=1000):Ok (cP l) I64:=by
 unfold cP
 refine Ok.bind (P:=I64) (Ok.loop (fun s:Int×Int=>(0<=s.2∧s.2<=l.length)∧I64 s.1) (fun s=>((l.length:Int)-s.2).toNat) ?_ ⟨⟨sm,sm⟩,by unfold I64;simp⟩) (fun o ho=>Ok.ret ho)
 rintro⟨s1,s2⟩ ⟨⟨i0,i1⟩,i2⟩
 simp only at i0 i1 i2
 unfold ju
 refine Ok.nS (fun hlt=>?_) (fun _=>Ok.st i2)
 refine Ok.bind (Ok.get om om) (fun a _=>?_)
 rw [w64 (n:=s2+1) om om]
 exact Ok.nx ⟨⟨za,za⟩,mz _⟩ za
structure StN(x:aD):Prop where
 num:I64 x.bo.a0
 den:I64 x.bf.a0
 taps:x.cW.length<=3
 shift:0<=x.c8
theorem valid_N{x:aD}(h:jG x):StN x:=by
 obtain⟨-, -,h1,h2,h3,h4⟩:=h
 exact⟨by unfold I64;omega,by unfold I64;omega,h1,h2⟩
theorem gain_okN{x:aD}(h:StN x)(n d:Int):Ok (jf x n d) (fun r=>r.1.bo.length<=64∧r.1.bf.length<=64):=by
 unfold jf
 refine Ok.pT (fun _=>Ok.bind (jR h.num) (fun a ha=>Ok.bind (jR h.den) (fun b hb=>Ok.ret ⟨ha,hb⟩))) (fun _=>?_)
 refine Ok.pT (fun _=>Ok.bind squared_ok (fun a ha=>Ok.bind squared_ok (fun b hb=>Ok.ret ⟨ha,hb⟩))) (fun _=>?_)
 refine Ok.bind (sum_okR _ (by have:=h.taps;omega)) (fun a ha=>Ok.bind (jR ha) (fun b hb=>?_))
 have hs:=h.shift
 have e:vq .i64 1 x.c8=some (shlI .i64 1 x.c8):=by unfold vq;rw [if_neg om]
 rw [e,zc]
 exact Ok.bind (jR (mz _)) (fun c hc=>Ok.ret ⟨hb,hc⟩)
theorem times_ok{a b:aH}(h1:a.bo.length<=64)(h2:a.bf.length<=64)(h3:b.bo.length<=64)(h4:b.bf.length<=64):Ok (mG a b) (fun r=>r.1.bo.length<=64∧r.1.bf.length<=64):=by
 have hv:∀f:aH,f.bo.length<=64->f.bf.length<=64->Ok (ex f) (fun _=>True):=fun f a b=>by
  unfold ex
  exact Ok.bind (iP _ om) (fun _ _=>Ok.u6 (fun _=>Ok.bind (iP _ om) (fun _ _=>Ok.u6 (fun _=>Ok.ret trivial) (fun _=>Ok.ret trivial))) (fun _=>Ok.ret trivial))
 unfold mG
 refine Ok.bind (hv a h1 h2) (fun _ _=>Ok.tu (fun _=>Ok.ret sm) (fun _=>Ok.bind (hv b h3 h4) (fun _ _=>Ok.tu (fun _=>Ok.ret sm) (fun _=>?_))))
 refine Ok.bind (mh h1 h3) (fun x hx=>Ok.bind (lH om) (fun y hy=>?_))
 refine Ok.bind (mh h2 h4) (fun z hz=>Ok.bind (lH om) (fun w hw=>?_))
 exact Ok.oT (fun _=>Ok.ret sm) (fun _=>Ok.oT (fun _=>Ok.ret sm) (fun _=>Ok.ret ⟨hy,hw⟩))
theorem Gain_ok{r:aL}(h:lu r)(n d:Int):Ok (je r n d) (fun x=>x.1.bo.length<=64∧x.1.bf.length<=64):=by
 have hin:∀a b c:Int,Ok (a7 a b c) (fun _=>True):=fun a b c=>by
  unfold a7;exact Ok.nS (fun _=>Ok.ret trivial) (fun _=>Ok.ret trivial)
 have hl:=h.1
 unfold je
 rw [resp_valid h,zc,if_neg sm]
 refine Ok.bind (hin _ _ _) (fun _ _=>Ok.tu (fun _=>Ok.ret sm) (fun _=>Ok.bind (hin _ _ _) (fun _ _=>Ok.tu (fun _=>Ok.ret sm) (fun _=>?_))))
 refine Ok.bind (P:=fun o=>match o with| .inl y=>y.1.length<=64∧y.2.length<=64| .inr y=>y.1.bo.length<=64∧y.1.bf.length<=64) (Ok.loop (fun s:Int×List Int×List Int=>(0<=s.1∧s.1<=r.bn.length)∧s.2.1.length<=64∧s.2.2.length<=64) (fun s=>((r.bn.length:Int)-s.1).toNat) ?_ ⟨⟨sm,sm⟩,sm,sm⟩) (fun o ho=>by rcases o with y|y<;>exact Ok.ret ho)
 rintro⟨s1,s2,s3⟩ ⟨⟨i0,i1⟩,i2,i3⟩
 simp only at i0 i1 i2 i3
 unfold kM
 refine Ok.nS (fun hlt=>?_) (fun _=>Ok.st ⟨i2,i3⟩)
 refine Ok.bind (Ok.get om om) (fun x hx=>?_)
 refine Ok.bind (gain_okN (valid_N (h.2 x hx.1)) n d) (fun y hy=>Ok.tu (fun _=>Ok.st sm) (fun _=>?_))
 refine Ok.bind (times_ok i2 i3 hy.1 hy.2) (fun z hz=>Ok.oT (fun _=>Ok.st sm) (fun _=>?_))
 rw [w64 om om]
 exact Ok.nx ⟨⟨za,za⟩,hz⟩ za
theorem byte8(s:List UInt8)(h:s.all (fun b=>decide (b.toNat<=8))=true){n:Int}(h0:0<=n)(h1:n<s.length):Ok (tC s n) (fun c=>0<=c∧c<=8):=by
 refine(Ok.byte h0 h1).mono fun c⟨b,hb,hc⟩=>?_
 have:=List.all_eq_true.1 h b (List.mem_of_getElem? hb)
 simp only [decide_eq_true_eq]at this
 omega
theorem shr16{n:Int}(h0:0<=n):oj .u64 n 16=n / 65536:=by
 show n.fdiv (2 ^ (min (16:Int).toNat 64))=n / 65536
 rw [Int.fdiv_eq_ediv_of_nonneg _ (by decide)]
 rfl
theorem shr32{n:Int}(h0:0<=n):oj .u64 n 32=n / 4294967296:=by
 show n.fdiv (2 ^ (min (32:Int).toNat 64))=n / 4294967296
 rw [Int.fdiv_eq_ediv_of_nonneg _ (by decide)]
 rfl
theorem wU8{n:Int}(h:0<=n∧n<256):IntKind.wrap .u8 n=n:=IntWalk.u8_in _ om
theorem len8_ok{n m:Int}(hn:0<=n∧n<65536)(hm:0<=m∧m<=48):Ok (fH n m) (fun r=>0<=r∧r<=m+16):=by
 unfold fH
 refine Ok.nS (fun h=>?_) (fun h=>?_)
 ·rw [shr8 hn.1,wU8 om]
  refine Ok.bind (byte8 _ (by decide+kernel) om so) (fun c hc=>?_)
  rw [w64 (n:=m+8) om om,w64 (n:=c) om om,w64 om om]
  exact Ok.ret ⟨om,om⟩
 ·rw [wU8 om]
  refine Ok.bind (byte8 _ (by decide+kernel) om so) (fun c hc=>?_)
  rw [w64 (n:=c) om om,w64 om om]
  exact Ok.ret ⟨om,om⟩
theorem bits_ok{n:Int}(h:0<=n∧n<18446744073709551616):Ok (eQ n) (fun r=>0<=r∧r<=64):=by
 have k10:∀{n m:Int},0<=n∧n<4294967296->0<=m∧m<=32->Ok (eR n m) (fun r=>0<=r∧r<=m+32):=fun{n m}hn hm=>by
  unfold eR
  refine Ok.nS (fun h=>?_) (fun h=>?_)
  ·rw [shr16 hn.1,w64 om om]
   exact(len8_ok om om).mono fun r hr=>by omega
  ·exact(len8_ok om om).mono fun r hr=>by omega
 unfold eQ jT
 refine Ok.bind (P:=fun r=>0<=r∧r<=64) (Ok.nS (fun h=>?_) (fun h=>?_)) (fun r hr=>Ok.ret hr)
 ·rw [shr32 om]
  exact(k10 om om).mono fun r hr=>by omega
 ·exact(k10 om om).mono fun r hr=>by omega
theorem u64_range(n:Int):0<=IntKind.wrap .u64 n∧IntKind.wrap .u64 n<18446744073709551616:=by
 simp [IntKind.wrap,IntKind.bits,IntKind.signed];omega
theorem dig17{c m d:Int}(hc: -1<=c∧c<=63)(hd:0<=d∧d<=255):Ok (dn c m d) (fun r=> -256<=r∧r<=16400):=by
 unfold dn
 rw [w64 (n:=256*c) om om,w64 om om]
 exact Ok.ret ⟨om,om⟩
theorem dig20{c m d:Int}(hc: -1<=c∧c<=63)(hd:0<=d∧d<=127):Ok (dp c m d) (fun r=> -256<=r∧r<=16400):=by
 unfold dp
 rw [w64 (n:=d*2) om om,w64 (n:=d*2+1) om om]
 exact Ok.nS (fun _=>Ok.bind (Ok.quo om) (fun _ _=>dig17 hc om)) (fun _=>dig17 hc om)
theorem dig23{c m d:Int}(hc: -1<=c∧c<=63)(hd:0<=d∧d<=63):Ok (dq c m d) (fun r=> -256<=r∧r<=16400):=by
 unfold dq
 rw [w64 (n:=d*2) om om,w64 (n:=d*2+1) om om]
 exact Ok.nS (fun _=>Ok.bind (Ok.quo om) (fun _ _=>dig20 hc om)) (fun _=>dig20 hc om)
theorem dig26{c m d:Int}(hc: -1<=c∧c<=63)(hd:0<=d∧d<=31):Ok (dt c m d) (fun r=> -256<=r∧r<=16400):=by
 unfold dt
 rw [w64 (n:=d*2) om om,w64 (n:=d*2+1) om om]
 exact Ok.nS (fun _=>Ok.bind (Ok.quo om) (fun _ _=>dig23 hc om)) (fun _=>dig23 hc om)
theorem dig29{c m d:Int}(hc: -1<=c∧c<=63)(hd:0<=d∧d<=15):Ok (du c m d) (fun r=> -256<=r∧r<=16400):=by
 unfold du
 rw [w64 (n:=d*2) om om,w64 (n:=d*2+1) om om]
 exact Ok.nS (fun _=>Ok.bind (Ok.quo om) (fun _ _=>dig26 hc om)) (fun _=>dig26 hc om)
theorem dig32{c m d:Int}(hc: -1<=c∧c<=63)(hd:0<=d∧d<=7):Ok (dv c m d) (fun r=> -256<=r∧r<=16400):=by
 unfold dv
 rw [w64 (n:=d*2) om om,w64 (n:=d*2+1) om om]
 exact Ok.nS (fun _=>Ok.bind (Ok.quo om) (fun _ _=>dig29 hc om)) (fun _=>dig29 hc om)
theorem dig35{c m d:Int}(hc: -1<=c∧c<=63)(hd:0<=d∧d<=3):Ok (dw c m d) (fun r=> -256<=r∧r<=16400):=by
 unfold dw
 rw [w64 (n:=d*2) om om,w64 (n:=d*2+1) om om]
 exact Ok.nS (fun _=>Ok.bind (Ok.quo om) (fun _ _=>dig32 hc om)) (fun _=>dig32 hc om)
theorem dig38{c m d:Int}(hc: -1<=c∧c<=63)(hd:0<=d∧d<=1):Ok (dx c m d) (fun r=> -256<=r∧r<=16400):=by
 unfold dx
 rw [w64 (n:=d*2) om om,w64 (n:=d*2+1) om om]
 exact Ok.nS (fun _=>Ok.bind (Ok.quo om) (fun _ _=>dig35 hc om)) (fun _=>dig35 hc om)
theorem digits_ok{c m:Int}(hc: -1<=c∧c<=63):Ok (eX c m) (fun r=> -256<=r∧r<=16400):=by
 unfold eX
 exact Ok.nS (fun _=>Ok.bind (Ok.quo om) (fun _ _=>dig38 hc om)) (fun _=>dig38 hc om)
theorem log_ok(n:Int):Ok (fK n) (fun r=> -256<=r.1∧r.1<=16400):=by
 unfold fK
 refine Ok.nS (fun _=>Ok.ret ⟨sm,sm⟩) (fun _=>?_)
 refine Ok.bind (bits_ok (u64_range n)) (fun L hL=>?_)
 rw [w64 (n:=L-1) om om]
 refine Ok.nS (fun h=>?_) (fun h=>?_)
 ·rw [w64 om om]
  have e:vq .i64 n (30-(L-1))=some (shlI .i64 n (30-(L-1))):=by unfold vq;rw [if_neg om]
  rw [e,zc]
  exact Ok.bind (digits_ok om) (fun r hr=>Ok.ret hr)
 ·rw [w64 om om]
  have e:shrO .i64 n (L-1-30)=some (oj .i64 n (L-1-30)):=by unfold shrO;rw [if_neg om]
  rw [e,zc]
  exact Ok.bind (digits_ok om) (fun r hr=>Ok.ret hr)
theorem logNat_ok{l:List Int}(hl:l.length<=64):Ok (eW l) (fun r=> -1000<=r.1∧r.1<=600000):=by
 unfold eW
 refine Ok.bind (iP l om) (fun v _=>Ok.tu (fun _=>Ok.ret ⟨sm,sm⟩) (fun _=>?_))
 rw [w64 (n:=(l.length:Int)-1) om om]
 refine Ok.nS (fun _=>Ok.ret ⟨sm,sm⟩) (fun h0=>Ok.pT (fun h1=>?_) (fun h1=>?_))
 ·refine Ok.bind (Ok.get om om) (fun a _=>Ok.bind (log_ok a) (fun r hr=>Ok.ret ⟨za,za⟩))
 ·rw [w64 (n:=(l.length:Int)-1-1) om om,w64 (n:=7680*((l.length:Int)-1-1)) om om]
  refine Ok.bind (Ok.get om om) (fun a _=>Ok.bind (Ok.get om om) (fun b _=>Ok.bind (log_ok _) (fun r hr=>?_)))
  rw [w64 om om]
  exact Ok.ret ⟨za,za⟩
theorem ground_ok{s:ba}{r:aL}(h:lu r)(a:Int):Ok (gp s r a) (fun x=> -700000<=x.1∧x.1<=700000):=by
 unfold gp
 refine Ok.bind (Gain_ok h _ _) (fun g hg=>Ok.oT (fun _=>Ok.ret ⟨sm,sm⟩) (fun _=>?_))
 refine Ok.bind (logNat_ok hg.1) (fun x hx=>Ok.oT (fun _=>Ok.ret ⟨sm,sm⟩) (fun _=>?_))
 refine Ok.bind (logNat_ok hg.2) (fun y hy=>Ok.oT (fun _=>Ok.ret ⟨sm,sm⟩) (fun _=>?_))
 refine Ok.bind (log_ok a) (fun z hz=>?_)
 rw [w64 (n:=2*z.1) om om,w64 (n:=2*z.1+y.1) om om,w64 om om]
 exact Ok.ret ⟨za,za⟩
theorem floorL_at{l:Int}(h: -1000000<=l∧l<=1000000):fD l=some (l*30103 / 256000):=by
 unfold fD iN
 rw [if_pos so,zc]
 dsimp only
 rw [if_neg so,w64 (n:=l*30103) om om]
 have hb: -30103000000<=l*30103∧l*30103<=30103000000:=by omega
 generalize l*30103=n at*
 have e1:pr .i64 n 256000=some (IntKind.wrap .i64 (n.tdiv 256000)):=by unfold pr;rw [if_neg om]
 have e2:vO n 256000=some (n.tmod 256000):=by unfold vO;rw [if_neg om]
 rw [e1,e2,zc,zc]
 rcases Int.le_total 0 n with h0|h0
 ·rw [Int.tdiv_eq_ediv_of_nonneg h0,Int.tmod_eq_emod_of_nonneg h0,if_neg so,w64 om om]
 ·obtain⟨m,rfl⟩:∃m,n= -m:=⟨-n,om⟩
  rw [Int.neg_tdiv,Int.neg_tmod,Int.tdiv_eq_ediv_of_nonneg om,Int.tmod_eq_emod_of_nonneg om,w64 (n:= -(m / 256000)) om om,w64 om om]
  by_cases hm:m%256000=0
  ·rw [if_neg so];congr 1;omega
  ·rw [if_pos so];congr 1;omega
theorem ceilL_at{l:Int}(h: -1000000<=l∧l<=1000000):iu l=some (-(-l*30103 / 256000)):=by
 unfold iu
 rw [w64 (n:=0-l) om om,floorL_at om,zc,w64 om om]
 congr 1
 rw [show 0-l= -l by omega];omega
theorem half_at'{n:Int}:fV n=some (n / 2):=by
 unfold fV
 show some (n.fdiv (2 ^ (min (1:Int).toNat 64)))=_
 rw [Int.fdiv_eq_ediv_of_nonneg _ (by decide)]
 rfl
theorem scale_valid{s:aw}(h:SetV s):ch s.dY=some true:=by
 have h1:=h.num;have h2:=h.den
 refine Ok.eq ?_
 unfold ch
 rw [dW h.cor,zc,if_pos sm]
 exact Ok.nS (fun _=>Ok.nS (fun _=>Ok.nS (fun _=>Ok.ret so) (fun _=>om)) (fun _=>om)) (fun _=>om)
theorem station_ok{s:aw}(hs:SetV s){r:aL}(hr:lu r)(a:Int){n f:Int}(h0:0<=n)(hnf:n<=f)(hf:f<=65535):Ok (ew s.dY r a n f) (fun x=>x.2=0->x.1.aF<=x.1.az):=by
 unfold ew
 rw [scale_valid hs,zc,if_neg sm]
 refine Ok.nS (fun _=>Ok.ret sm) (fun _=>Ok.nS (fun _=>Ok.ret sm) (fun _=>?_))
 refine Ok.bind (ground_ok hr a) (fun x hx=>Ok.oT (fun h=>Ok.ret sm) (fun _=>?_))
 refine Ok.bind (lz hs.cor n f h0 hnf hf) (fun y hy=>Ok.oT (fun h=>Ok.ret sm) (fun h=>?_))
 obtain⟨y0,y1,y2⟩:=hy.2 h
 rw [w64 (n:=x.1-2) om om,w64 (n:=0-x.1) om om,w64 (n:=0-x.1-6) om om]
 rw [half_at',zc,floorL_at om,zc,half_at',zc,w64 (n:=0-(0-x.1-6) / 2) om om,ceilL_at om,zc]
 refine Ok.ret fun _=>?_
 simp only
 rw [w64 om om,w64 om om]
 omega
end Go.Dw.Lt
set_option maxRecDepth 100000
set_option maxHeartbeats 4000000
namespace Go.Dw.Lt
open Go.Dw Go.Proofs
abbrev Est:=ak
theorem inner_ok{d:List Int}{a i:Int}(ha:0<=a)(hi:a<=i∧i<d.length)(hd:d.length<=1000):Ok (nW (cu a i) (i,d)) (fun o=>o.1=i∧o.2.length=d.length):=by
 refine Ok.loop (fun s:Int×List Int=>(a<=s.1∧s.1<=i)∧s.2.length=d.length) (fun s=>s.1.toNat) ?_ ⟨⟨hi.1,Int.le_refl _⟩,rfl⟩
 rintro⟨s5,s6⟩ ⟨⟨i0,i1⟩,i2⟩
 simp only at i0 i1 i2
 unfold cu
 refine Ok.nS (fun hgt=>?_) (fun _=>Ok.st ⟨rfl,i2⟩)
 rw [w64 (n:=s5-1) om om]
 refine Ok.bind (Ok.pf om om) (fun _ _=>Ok.bind (Ok.get om om) (fun x _=>?_))
 refine Ok.bind (Ok.pf om om) (fun _ _=>Ok.bind (Ok.get om om) (fun y _=>?_))
 have hc:Ok (jH x y) (fun _=>True):=by
  unfold jH dO
  rw [zc]
  exact Ok.u6 (fun _=>Ok.u6 (fun _=>Ok.ret trivial) (fun _=>Ok.ret trivial)) (fun _=>Ok.ret trivial)
 refine Ok.bind hc (fun c _=>Ok.u6 (fun _=>?_) (fun _=>Ok.st ⟨rfl,i2⟩))
 refine Ok.bind (Ok.pf om om) (fun _ _=>Ok.bind (Ok.get om om) (fun x' _=>?_))
 refine Ok.bind (Ok.pf om om) (fun _ _=>Ok.bind (Ok.get om om) (fun y' _=>?_))
 refine Ok.bind (Ok.pf om om) (fun _ _=>Ok.bind (Ok.set om om) (fun e he=>?_))
 subst he
 refine Ok.bind (Ok.pf om so) (fun _ _=>Ok.bind (Ok.set om so) (fun e he=>?_))
 subst he
 exact Ok.nx ⟨⟨za,za⟩,by simpa using i2⟩ za
theorem sort_okI{d:List Int}(hd:d.length<=12):Ok (fG d) (fun r=>r.length=d.length):=by
 have hins:Ok (ca 0 d.length d) (fun r=>r.length=d.length):=by
  unfold ca
  rw [w64 om om]
  refine Ok.bind (P:=fun r:List Int=>r.length=d.length) (Ok.loop (fun s:Int×List Int=>1<=s.1∧s.2.length=d.length) (fun s=>((d.length:Int)-s.1).toNat) ?_ ⟨sm,rfl⟩) (fun r hr=>Ok.ret hr)
  rintro⟨s1,s2⟩ ⟨i0,i1⟩
  simp only at i0 i1
  unfold dR
  refine Ok.nS (fun hlt=>?_) (fun _=>by rw [zc];exact Ok.st i1)
  refine Ok.bind (inner_ok (a:=0) (i:=s1) (d:=s2) om om om) (fun o ho=>?_)
  rw [ho.1,w64 om om]
  exact Ok.nx ⟨za,za⟩ za
 unfold fG
 refine Ok.bind (bits_ok (u64_range _)) (fun b _=>?_)
 refine Ok.bind (P:=fun r:List Int=>r.length=d.length) ?_ (fun r hr=>Ok.ret hr)
 have h1:Ok ((nW (cy d.length 0 d b) ()).bind fun o6=>some o6) (fun r=>r.length=d.length):=by
  refine Ok.bind (P:=fun r:List Int=>r.length=d.length) (Ok.loop (fun _=>True) (fun _=>0) (fun _ _=>?_) trivial) (fun r hr=>Ok.ret hr)
  unfold cy
  rw [w64 (n:=(d.length:Int)-0) om om]
  exact Ok.nS (fun _=>Ok.bind hins (fun r hr=>Ok.st hr)) (fun h=>om)
 obtain⟨r,e,hr⟩:=h1
 refine⟨r,?_,hr⟩
 unfold eh
 refine Ar ⟨1,e⟩ fun n s hs=>?_
 cases n with
 |zero=>cases hs
 |succ n=>
  have hs':((nW (cy d.length 0 d b) ()).bind fun o6=>some o6)=some s:=hs
  rw [e]at hs'
  exact(Option.some.inj hs').symm
theorem half_len{l:List Int}(h0:1<=l.length)(h1:l.length<=12):Ok ((pr .i64 (IntKind.wrap .i64 ((l.length:Int)-(1:Int))) (2:Int)).bind fun x12=>(inO l x12).bind fun _=>(nZ l x12).bind fun x15=>some x15) (fun _=>True):=by
 rw [w64 om om]
 refine Ok.bind (Ok.quo om) (fun q hq=>?_)
 rw [Int.tdiv_eq_ediv_of_nonneg om,w64 om om]at hq
 exact Ok.bind (Ok.pf om om) (fun _ _=>Ok.bind (Ok.get om om) (fun _ _=>Ok.ret trivial))
theorem med2_ok{l:List Est}(h0:1<=l.length)(h1:l.length<=12):Ok (ed l) (fun _=>True):=by
 unfold ed
 refine Ok.bind (P:=fun o:List Int=>o.length=l.length) (Ok.loop (fun s:Int×List Int=>(0<=s.1∧s.1<=l.length)∧s.2.length=s.1.toNat) (fun s=>((l.length:Int)-s.1).toNat) ?_ ⟨⟨sm,sm⟩,rfl⟩) (fun o ho=>?_)
 ·rintro⟨s1,s2⟩ ⟨⟨i0,i1⟩,i2⟩
  simp only at i0 i1 i2
  unfold gI fu
  refine Ok.nS (fun hlt=>?_) (fun _=>Ok.st om)
  refine Ok.bind (Ok.get om om) (fun x _=>?_)
  rw [zc]
  refine Ok.bind (Ok.app (by simp only [List.length_cons,List.length_nil];omega)) (fun y hy=>?_)
  subst hy
  rw [w64 om om]
  exact Ok.nx ⟨⟨za,za⟩,by simp only [List.length_append,List.length_cons,List.length_nil];omega⟩ za
 ·exact Ok.bind (sort_okI om) (fun r hr=>half_len om om)
theorem med3_ok{l:List Est}(h0:1<=l.length)(h1:l.length<=12):Ok (ef l) (fun _=>True):=by
 unfold ef
 refine Ok.bind (P:=fun o:List Int=>o.length=l.length) (Ok.loop (fun s:Int×List Int=>(0<=s.1∧s.1<=l.length)∧s.2.length=s.1.toNat) (fun s=>((l.length:Int)-s.1).toNat) ?_ ⟨⟨sm,sm⟩,rfl⟩) (fun o ho=>?_)
 ·rintro⟨s1,s2⟩ ⟨⟨i0,i1⟩,i2⟩
  simp only at i0 i1 i2
  unfold gJ fw
  refine Ok.nS (fun hlt=>?_) (fun _=>Ok.st om)
  refine Ok.bind (Ok.get om om) (fun x _=>?_)
  rw [zc]
  refine Ok.bind (Ok.app (by simp only [List.length_cons,List.length_nil];omega)) (fun y hy=>?_)
  subst hy
  rw [w64 om om]
  exact Ok.nx ⟨⟨za,za⟩,by simp only [List.length_append,List.length_cons,List.length_nil];omega⟩ za
 ·exact Ok.bind (sort_okI om) (fun r hr=>half_len om om)
theorem network_ok{l:List Est}(h0:1<=l.length)(h1:l.length<=12)(hl:∀x∈l,x.aF<=x.az):Ok (ev l) (fun r=>r.2=0):=by
 unfold ev
 refine Ok.pT (fun h=>om) (fun _=>?_)
 have e:bZ l=some false:=by
  unfold bZ de
  rw [lm l.length (fun i hi=>?_) ?_]
  ·rfl
  ·unfold cG
   rw [if_neg sm]
  ·unfold cG fr
   have:=hl _ (List.getElem_mem hi)
   rw [if_pos so,oY rfl hi,zc,zc,if_neg so,w64 om om]
   simp
 rw [e,zc,if_neg sm]
 exact Ok.bind (med2_ok h0 h1) (fun a _=>Ok.bind (med3_ok h0 h1) (fun b _=>Ok.ret rfl))
structure MatV(m:aI):Prop where
 len:m.cm.length=m.cn.length∧m.gL.length=m.cn.length
 few:m.cn.length<=12
 pos:∀a∈m.cm,dg 60 a.aM
 resp:∀e∈m.gL,lu e.br
theorem nB{s:aw}(hs:SetV s){m:aI}(hm:MatV m){b:ag}(hb:dN b):Ok (ci m s b) (fun r=>r.length<=m.cn.length∧∀x∈r,x.aF<=x.az):=by
 obtain⟨⟨l1,l2⟩,l3,hp,hr⟩:=hm
 unfold ci
 refine Ok.bind (P:=fun r:List Est=>r.length<=m.cn.length∧∀x∈r,x.aF<=x.az) (Ok.loop (fun u:Int×List Est=>(0<=u.1∧u.1<=m.cm.length)∧u.2.length<=u.1.toNat∧∀x∈u.2,x.aF<=x.az) (fun u=>((m.cm.length:Int)-u.1).toNat) ?_ ⟨⟨sm,sm⟩,sm,sm⟩) (fun r hr=>Ok.ret hr)
 rintro⟨s1,s2⟩ ⟨⟨i0,i1⟩,i2,i3⟩
 simp only at i0 i1 i2 i3
 unfold cN
 refine Ok.nS (fun hlt=>?_) (fun _=>Ok.st ⟨om,i3⟩)
 refine Ok.bind (Ok.get om om) (fun x6 g6=>Ok.bind (Ok.get om om) (fun x7 g7=>Ok.bind (Ok.get om om) (fun x8 g8=>?_)))
 obtain⟨e1,n0,n1⟩:=mA hb (hp _ g6.1)
 obtain⟨e2,f0,f1⟩:=Far_at hb (hp _ g6.1)
 rw [e1,zc,e2,zc,w64 om om]
 refine Ok.bind (station_ok hs (hr _ g7.1) x8.bj n0 (lq hb _) om) (fun y hy=>?_)
 refine Ok.pT (fun h=>?_) (fun _=>Ok.nx ⟨⟨za,za⟩,za,i3⟩ za)
 refine Ok.bind (Ok.app (by simp only [List.length_cons,List.length_nil];omega)) (fun z hz=>?_)
 subst hz
 refine Ok.nx ⟨⟨za,za⟩,by simp only [List.length_append,List.length_cons,List.length_nil];omega,fun x hx=>?_⟩ za
 rcases List.mem_append.1 hx with h'|h'
 ·exact i3 x h'
 ·rw [List.mem_singleton.1 h'];exact hy h
end Go.Dw.Lt
set_option maxRecDepth 100000
set_option maxHeartbeats 4000000
namespace Go.Dw.Lt
open Go.Dw Go.Proofs
open Sd (mM ld jM)
structure UsV(a:aw)(r:aC×aj×Bool):Prop where
 ph:PhV r.1
 reach:Reach a.aA.aS (lf a.aA.aG r.1.aM)
 resp:lu r.2.1.br
noncomputable def used (a:aw) (v:aB) (p:Pick):aC×aj×Bool:=(cJ a v p).getD (⟨⟨0,0,0⟩,0,0,0⟩,zEp,false)
theorem epAt_ok{v:aB}(hv:InvV v){s:Sid}{t:Int}{e:aj}(h:epAt v s t=some e):EpOk e:=by
 unfold epAt at h
 cases hc:chan v s with
 |none=>rw [hc]at h;cases h
 |some c=>
  rw [hc]at h
  exact(hv.all c (chan_mem hc).1).2.all e (epIn_mem h).1
theorem phase_ok{e:aj}(he:EpOk e){p:Pick}(hp:kR p):PhV ⟨e.aW,p.a8,p.bF,1⟩:=by
 obtain⟨h0,h1,h2,h3,h4,h5⟩:=hp
 exact⟨he.pos,h1,za,za,rfl⟩
theorem nQ{a:aw}(ha:SetV a){v:aB}(hv:InvV v){p:Pick}(hp:kR p):cJ a v p=some (used a v p)∧((used a v p).2.2=true->UsV a (used a v p)):=by
 have h:Ok (cJ a v p) (fun r=>r.2.2=true->UsV a r):=by
  unfold cJ
  rw [valid_pick hp,zc,if_neg sm,At_eq hv.lens (inv_valid hv),zc]
  cases h:epAt v p.aJ p.bS with
  |none=>
   dsimp only
   rw [if_pos sm]
   exact Ok.ret sm
  |some e=>
   dsimp only
   rw [if_neg sm]
   have he:=epAt_ok hv h
   refine Ok.bind (zone_ok ha.tab ha.box (a:=⟨e.aW,p.a8,p.bF,1⟩) (phase_ok he hp)) (fun z hz=>?_)
   exact Ok.oT (fun _=>Ok.ret sm) (fun h0=>Ok.ret fun _=>⟨phase_ok he hp,hz.1.1 h0,he.resp⟩)
 obtain⟨r,e,hr⟩:=h
 have:used a v p=r:=by unfold used;rw [e];rfl
 rw [this]
 exact⟨e,hr⟩
noncomputable def eL (a:aw) (v:aB) (L:List Pick):List Pick:=L.filter fun p=>(used a v p).2.2
noncomputable def mat (a:aw) (v:aB) (U:List Pick):aI:=⟨U,U.map fun p=>(used a v p).1,U.map fun p=>(used a v p).2.1⟩
theorem gather_at{a:aw}(ha:SetV a){v:aB}(hv:InvV v){l L:List Pick}(hL:ey l=some L)(hl:L.length<=20)(hp:∀p∈L,kR p):eo a v l=some (mat a v (eL a v L),0):=by
 unfold eo
 rw [set_valid ha,zc,if_neg sm,inv_valid hv,zc,if_neg sm,hL,zc]
 have:Ok (nW (gB L a v) ((0:Int),([]:List ar),([]:List aC),([]:List aj))) (fun o=>o=((mat a v (eL a v L)).cn,(mat a v (eL a v L)).cm,(mat a v (eL a v L)).gL)):=by
  refine Ok.loop (fun s:Int×List Pick×List aC×List aj=>∃i:Nat,i<=L.length∧s=((i:Int),(mat a v (eL a v (L.take i))).cn,(mat a v (eL a v (L.take i))).cm,(mat a v (eL a v (L.take i))).gL)) (fun s=>((L.length:Int)-s.1).toNat) ?_ ⟨0,Nat.zero_le _,rfl⟩
  rintro s ⟨i,i0,rfl⟩
  unfold gB
  dsimp only
  refine Ok.nS (fun hlt=>?_) (fun hge=>Ok.st ?_)
  rotate_left
  ·obtain rfl:i=L.length:=by omega
   rw [List.take_length]
  have hi:i<L.length:=by omega
  have hlu:(eL a v (L.take i)).length<=20:=by
   have:=List.length_filter_le (fun p=>(used a v p).2.2) (L.take i)
   have h2:(L.take i).length<=L.length:=by rw [List.length_take];omega
   unfold eL;omega
  rw [oY rfl hi,zc,(nQ ha hv (hp _ (List.getElem_mem hi))).1,zc,w64 om om]
  have ht:eL a v (L.take (i+1))=eL a v (L.take i)++(if(used a v L[i]).2.2=true then [L[i]]else []):=by
   unfold eL
   rw [pV hi,List.filter_append]
   congr 1
   by_cases h:(used a v L[i]).2.2=true<;>simp [h]
  by_cases hu:(used a v L[i]).2.2=true
  ·rw [if_pos hu]at ht⊢
   rw [appO_at (by simp only [mat,List.length_cons,List.length_nil];omega),zc,appO_at (by simp only [mat,List.length_map,List.length_cons,List.length_nil];omega),zc,appO_at (by simp only [mat,List.length_map,List.length_cons,List.length_nil];omega),zc]
   refine Ok.nx ⟨i+1,hi,?_⟩ za
   rw [ht]
   simp [mat]
  ·rw [if_neg hu]at ht⊢
   refine Ok.nx ⟨i+1,hi,?_⟩ za
   rw [ht]
   simp
 rw [this.eq,zc]
noncomputable def mu (m:aI) (a:aw):Option (aU×Int):=
 (cC m a).bind fun x3=>if(x3.2 != (0:Int))=true then(some ((aU.mk [] (ai.mk (aa.mk 0 0 0) 0 0 0 (ag.mk (aa.mk 0 0 0) (aa.mk 0 0 0))) (ak.mk 0 0) 0),x3.2))else((eJ x3.1 a.bJ).bind fun x5=>if(x5.2 != (0:Int))=true then(some ((aU.mk [] (ai.mk (aa.mk 0 0 0) 0 0 0 (ag.mk (aa.mk 0 0 0) (aa.mk 0 0 0))) (ak.mk 0 0) 0),x5.2))else((ci m a x5.1.bK).bind fun x7=>if(decide ((x7.length:Int)>(0:Int)))=true then((ev x7).bind fun x9=>if(x9.2 != (0:Int))=true then(some ((aU.mk [] (ai.mk (aa.mk 0 0 0) 0 0 0 (ag.mk (aa.mk 0 0 0) (aa.mk 0 0 0))) (ak.mk 0 0) 0),x9.2))else(some ((aU.mk m.cn x5.1 x9.1 (x7.length:Int)),(0:Int))))else(some ((aU.mk m.cn x5.1 (ak.mk 0 0) 0),(0:Int)))))
theorem solve_at{a:aw}{v:aB}{l:List Pick}{m:aI}(h:eo a v l=some (m,0)):d9 a v l=mu m a:=by
 unfold d9
 rw [h,zc,if_neg sm]
 rfl
structure MatP(a:aw)(m:aI):Prop where
 mat:MatV m
 ph:∀b∈m.cm,PhV b∧Reach a.aA.aS (lf a.aA.aG b.aM)
theorem mat_ok{a:aw}(ha:SetV a){v:aB}(hv:InvV v){U:List Pick}(hl:U.length<=12)(hp:∀p∈U,kR p∧(used a v p).2.2=true):MatP a (mat a v U):=by
 refine⟨⟨⟨by simp [mat],by simp [mat]⟩,hl,fun b hb=>?_,fun e he=>?_⟩,fun b hb=>?_⟩
 ·obtain⟨p,h,rfl⟩:=List.mem_map.1 hb
  exact((nQ ha hv (hp p h).1).2 (hp p h).2).ph.pos
 ·obtain⟨p,h,rfl⟩:=List.mem_map.1 he
  exact((nQ ha hv (hp p h).1).2 (hp p h).2).resp
 ·obtain⟨p,h,rfl⟩:=List.mem_map.1 hb
  have:=(nQ ha hv (hp p h).1).2 (hp p h).2
  exact⟨this.ph,this.reach⟩
theorem mC{l:List Int}(h:l.length<=1000):py 8 l=some l:=by
 unfold py
 rw [if_pos om]
theorem solve_ok{a:aw}(ha:SetV a){m:aI}(hm:MatP a m):Ok (mu m a) (fun r=>(m.cn=[]->r.2=24)∧(m.cn≠ []->r.2=0∧r.1.iI=m.cn∧(m.cn.length=1->r.1.aK.aZ=0))∧r.1.iI.length<=12):=by
 obtain⟨hm,hph⟩:=hm
 obtain⟨⟨l1,l2⟩,l3, -, -⟩:=id hm
 have hl:=ha.tab.len;have hs:=ha.tab.same
 unfold mu cC
 by_cases h0:m.cn=[]
 ·rw [if_pos (by simp [l1,h0]),zc,if_pos sm]
  exact Ok.ret ⟨fun _=>rfl,fun h=>(h h0).elim,sm⟩
 have hpos:=List.length_pos_iff.2 h0
 rw [if_neg (by simp;intro e;rw [e]at l1;simp at l1;omega),if_neg so,mC om,zc,mC om,zc,zc,if_neg sm]
 have hq:PV ⟨a.aA.aG,⟨a.aA.aS.aQ,a.aA.aS.aF,a.aA.aS.az⟩,m.cm,a.aA.bN⟩:=⟨ha.box,ha.reg,ha.tab,⟨za,za⟩,ha.cap,hph⟩
 refine Ok.bind (locate_ok hq ha.tolerance.1) (fun x⟨x1,x2,x3⟩=>?_)
 refine Ok.oT (fun h=>(h x1).elim) (fun _=>?_)
 refine Ok.bind (nB ha hm (x2.ok ha.box ha.reg)) (fun y hy=>?_)
 have hmis:m.cn.length=1->x.1.aZ=0:=fun h=>x3 (by show m.cm.length=1;omega)
 refine Ok.nS (fun hgt=>?_) (fun _=>Ok.ret ⟨fun h=>(h0 h).elim,fun _=>⟨rfl,rfl,hmis⟩,l3⟩)
 refine Ok.bind (network_ok om om hy.2) (fun z hz=>?_)
 exact Ok.oT (fun h=>(h hz).elim) (fun _=>Ok.ret ⟨fun h=>(h0 h).elim,fun _=>⟨rfl,rfl,hmis⟩,l3⟩)
end Go.Dw.Lt
set_option maxRecDepth 100000
set_option maxHeartbeats 4000000
namespace Go.Dw.Lt
open Go.Dw Go.Proofs
open Sd (mM ld jM)
def ex1(s:Sid):Pick:=⟨s,2500,2500,2500,10,0⟩
theorem ex_used:((lE []).bind fun x1=>(ik 2 x1).bind fun x2=>(kx 3 x2.2).bind fun x3=>(gH 1).bind fun x5=>(gR x2.1 x3.1 (ex1 x5)).bind fun r=>some r.2.2)=some true:=by kernel_rfl
theorem ex_used':((ip []).bind fun x1=>(cK 2 x1).bind fun x2=>(eP 3 x2.2).bind fun x3=>(c7 1).bind fun x5=>(cJ x2.1 x3.1 (ex1 x5)).bind fun r=>some r.2.2)=some true:=
 (Le.bind (keep_New_le _) fun _=>Le.bind (Src_Settings_le _ _) fun _=>Le.bind (Src_Sites_le _ _) fun _=>Le.bind (keep_Source_le _) fun _=>Le.bind (solution_used_le _ _ _) fun _=>Le.refl _) _ ex_used
theorem ex_ok{s:Sid}(h:IsSid s):kR (ex1 s):=⟨h,by simp [ex1],by simp [ex1],by simp [ex1],by simp [ex1],by simp [ex1],by simp [ex1],by simp [ex1],by simp [ex1]⟩
theorem sort_nil:ey []=some []:=by
 obtain⟨L,e, -,m, -⟩:=nu (l:=[]) sm
 have hL:L=[]:=List.eq_nil_iff_forall_not_mem.2 fun p hp=>by have:=(m p).1 hp;cases this
 rw [e,hL]
theorem sort_one(p:Pick):ey [p]=some [p]:=by
 obtain⟨L,e,s,m, -⟩:=nu (l:=[p]) sm
 rw [e,lb s (List.pairwise_singleton _ p) m]
theorem awake_at:hP=some true:=by
 refine Ok.eq ?_
 have hc:=ex_used'
 unfold hP
 obtain⟨d0,e0,h0⟩:=new_ok []
 rw [e0,zc]at hc⊢
 obtain⟨x2,e2,ha,h2⟩:=settingsV (k:=2) om d0 h0
 rw [e2,zc]at hc⊢
 obtain⟨x3,e3,⟨hv, -⟩, -⟩:=sitesV (n:=3) x2.2 h2
 rw [e3,zc]at hc⊢
 obtain⟨x5,e5,h5⟩:=source_ok 1
 rw [e5,zc]at hc
 have hp:=ex_ok h5
 obtain⟨u1,u2⟩:=nQ ha hv hp
 rw [u1,zc]at hc
 have hu:=Option.some.inj hc
 have g0:=gather_at ha hv sort_nil sm sm
 have g1:=gather_at ha hv (sort_one (ex1 x5)) sm (by simpa using hp)
 have hU:eL x2.1 x3.1 [ex1 x5]=[ex1 x5]:=by unfold eL;simp [hu]
 have hN:eL x2.1 x3.1 []=[]:=rfl
 rw [hU]at g1
 rw [hN]at g0
 rw [solve_at g0]
 refine Ok.bind (solve_ok ha (mat_ok ha hv sm sm)) (fun x4 h4=>?_)
 rw [e5,zc]
 show Ok ((d9 x2.1 x3.1 [ex1 x5]).bind _) _
 rw [solve_at g1]
 refine Ok.bind (solve_ok ha (mat_ok ha hv sm (by simpa using⟨hp,hu⟩))) (fun x6 h6=>?_)
 obtain⟨r1,r2,r3⟩:=h6.2.1 (by simp [mat])
 have r3:=r3 (by simp [mat])
 have r2:x6.1.iI=[ex1 x5]:=r2
 have r4:=h4.1 rfl
 rw [if_pos (by simpa using r4),if_pos (by simpa using r1),r2,if_pos sm,show nZ [ex1 x5] (0:Int)=some (ex1 x5)from rfl,zc,if_pos (by simp [ex1]),if_pos (by simpa using r3),set_valid ha]
 exact Ok.ret rfl
end Go.Dw.Lt
set_option maxRecDepth 100000
set_option maxHeartbeats 4000000
namespace Go.Dw.Lt
open Go.Dw Go.Proofs
theorem solve_least{a:aw}(ha:SetV a){m:aI}(hm:MatP a m)(h0:m.cn≠ []):
  Ok (mu m a) (fun r=>r.2=0∧∃q,cC m a=some (q,0)∧PV q∧Least q a.bJ r.1.aK∧(0<=r.1.kU∧r.1.kU<=r.1.iI.length)∧(r.1.kU=0->r.1.dX=⟨0,0⟩)):=by
 obtain⟨hm,hph⟩:=hm
 obtain⟨⟨l1,l2⟩,l3, -, -⟩:=id hm
 have hl:=ha.tab.len;have hs:=ha.tab.same
 have hpos:=List.length_pos_iff.2 h0
 have hq:PV ⟨a.aA.aG,⟨a.aA.aS.aQ,a.aA.aS.aF,a.aA.aS.az⟩,m.cm,a.aA.bN⟩:=⟨ha.box,ha.reg,ha.tab,⟨za,za⟩,ha.cap,hph⟩
 have hp:cC m a=some (⟨a.aA.aG,⟨a.aA.aS.aQ,a.aA.aS.aF,a.aA.aS.az⟩,m.cm,a.aA.bN⟩,0):=by
  unfold cC
  rw [if_neg (by simp;intro e;rw [e]at l1;simp at l1;omega),if_neg so,mC om,zc,mC om,zc]
 unfold mu
 rw [hp,zc,if_neg sm]
 refine Ok.bind ((locate_ok hq ha.tolerance.1).both (locate_least hq ha.tolerance.1)) (fun x⟨⟨x1,x2,x3⟩,_,x4⟩=>?_)
 refine Ok.oT (fun h=>(h x1).elim) (fun _=>?_)
 refine Ok.bind (nB ha hm (x2.ok ha.box ha.reg)) (fun y⟨hyl,hy⟩=>?_)
 refine Ok.nS (fun hgt=>?_) (fun hng=>Ok.ret ⟨rfl,_,rfl,hq,x4,⟨sm,sm⟩,fun _=>rfl⟩)
 refine Ok.bind (network_ok om om hy) (fun z hz=>?_)
 exact Ok.oT (fun h=>(h hz).elim) (fun _=>Ok.ret ⟨rfl,_,rfl,hq,x4,⟨sm,by simpa using hyl⟩,fun h=>by simp only at h;omega⟩)
theorem nr(l:List Int):gz l=some true:=by
 refine Ok.eq ?_
 unfold gz
 refine Ok.bind (new_ok l) (fun x1 h1=>?_)
 refine Ok.bind ((settingsV (k:=3) om x1 h1).both (settings_ok x1 h1)) (fun x2⟨h2,hset,_⟩=>?_)
 refine Ok.bind (sitesV x2.2 h2.2) (fun x3⟨⟨h3,_⟩,h3'⟩=>?_)
 refine Ok.bind (picks_ok x2.1 hset x3.1 h3.inv 7 om x3.2 h3') (fun x4⟨⟨h4,h5⟩,h6⟩=>?_)
 obtain⟨L,e1,s1,m1,n1⟩:=nu (l:=x4.1) om
 have hg:=gather_at h2.1 h3 e1 om (fun p hp=>h5 p ((m1 p).1 hp))
 have hU:(eL x2.1 x3.1 L).length<=12:=Nat.le_trans (List.length_filter_le _ _) om
 have hm := mat_ok h2.1 h3 hU (fun p hp => by
  have:=List.mem_filter.1 hp
  exact⟨h5 p ((m1 p).1 this.1),this.2⟩)
 rw [solve_at hg]
 by_cases h0:(mat x2.1 x3.1 (eL x2.1 x3.1 L)).cn=[]
 ·refine Ok.bind (solve_ok h2.1 hm) (fun x5⟨g1,_,_⟩=>?_)
  have e:=g1 h0
  refine Ok.oT (fun _=>?_) (fun h=>om)
  refine Ok.pT (fun _=>?_) (fun h=>(h e).elim)
  rw [awake_at]
  exact Ok.ret rfl
 ·refine Ok.bind (solve_least h2.1 hm h0) (fun x5⟨g1,q,g2,hq,⟨g3,g4,g5,g6⟩,g7,g8⟩=>?_)
  refine Ok.oT (fun h=>(h g1).elim) (fun _=>?_)
  have hpr:gu x2.1 x3.1 x4.1=some (q,0):=by
   unfold gu
   rw [hg,zc,if_neg sm,g2]
   rfl
  rw [hpr,zc]
  dsimp only
  rw [g4,zc]
  refine Ok.bind (least_ok hq) (fun x11⟨p,p1,p2⟩=>?_)
  have hmis:x5.1.aK.aZ=mis q x5.1.aK.bp:=by
   obtain⟨t,e, -⟩:=mis_at hq g3
   rw [g4]at e
   exact(Prod.mk.inj (Prod.mk.inj (Option.some.inj e)).2).1
  have r1:=mis_range hq p1
  have r2:=mis_range hq g3
  have k1:=g5 p p1
  have k2:=g6 p p1
  rw [if_pos sm,if_pos sm,if_pos sm,if_pos sm]
  dsimp only
  rw [w64 om om,if_pos so,if_pos so,if_pos (by simpa using g7.1),if_pos (by simpa using g7.2),awake_at]
  refine Ok.nS (fun _=>Ok.ret rfl) (fun hn=>?_)
  have hz:=g8 om
  rw [if_pos (by rw [hz];rfl)]
  exact Ok.ret rfl
end Go.Dw.Lt
