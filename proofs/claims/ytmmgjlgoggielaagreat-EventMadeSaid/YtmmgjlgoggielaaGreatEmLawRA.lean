
import Derived.Test.YtmmgjlgoggielaaGreatEmLawE
import Derived.Test.YtmmgjlgoggielaaGreatDwPlain

set_option maxRecDepth 100000
set_option maxHeartbeats 4000000
namespace Go.Dw.Em
open Go.Dw Go.Proofs
theorem search_at{t:aA}(ht:nO t)(d:Int)(hd:d<=t.aZ*((t.aI.length:Int)-1)):Ok (dF (t.aC.length:Int) t d) (fun r=>(0<=r∧r<t.aC.length)∧d<=r*t.aZ∧∀k,0<=k->k<r->k*t.aZ<d):=by
 have hl:=ht.len;have hs:=ht.same;have hst:=ht.step
 unfold dF
 rw [Option.bind_fun_some]
 refine Ok.loop (fun s=>∃i j:Nat,s=((i:Int),(j:Int))∧i<t.aC.length∧i<=j∧j<=t.aC.length∧(j<t.aC.length->d<=(j:Int)*t.aZ)∧∀k:Int,0<=k->k<i->k*t.aZ<d) (fun s=>(s.2-s.1).toNat) ?_ ⟨0,t.aC.length,rfl,za,za,Nat.le_refl _,fun h=>za,fun k h0 h1=>za⟩
 rintro s ⟨i,j,rfl,i0,i1,i2,i3,i4⟩
 unfold f9
 dsimp only
 refine Ok.gv (fun hlt=>?_) (fun hge=>Ok.st ⟨⟨za,za⟩,?_,i4⟩)
 rotate_left
 ·obtain rfl:i=j:=by omega
  exact i3 i0
 have hh:=half_at (i+j) za
 rw [Int.natCast_add]at hh
 have hk1:(i+j) / 2<j:=by omega
 have hk2:i<=(i+j) / 2:=by omega
 rw [hh]
 generalize (i+j) / 2=k at*
 unfold gc
 have hb:0<=(k:Int)*t.aZ∧(k:Int)*t.aZ<=30*100:=⟨Int.mul_nonneg za za,Int.mul_le_mul za za za za⟩
 rw [w64 (n:=(k:Int)*t.aZ) za za,zd]
 refine Ok.iteND (fun hlt=>?_) (fun hle=>Ok.nx ⟨i,k,rfl,i0,hk2,za,fun _=>hle,i4⟩ zc)
 rw [w64 za za]
 refine Ok.nx ⟨k+1,j,sm,?_,za,i2,i3,fun m h0 h1=>?_⟩ zc
 ·have h1:(k:Int)*t.aZ<t.aZ*((t.aI.length:Int)-1):=by omega
  rw [Int.mul_comm]at h1
  have:=Int.lt_of_mul_lt_mul_left h1 za
  omega
 ·have:m*t.aZ<=(k:Int)*t.aZ:=Int.mul_le_mul_of_nonneg_right za za
  omega
theorem ow{t:aA}(ht:nO t):∀(a b:Int),0<=a->a<=b->b<=65535->Reach t b->∃x c u:Int,bZ t a b=some (t.aI.getD (x.tdiv t.aZ).toNat 0,t.aC.getD u.toNat 0,0)∧(0<=x∧x.tdiv t.aZ<t.aI.length)∧(x*x<=a∧a<(x+1)*(x+1))∧(0<=c∧b<=c*c∧∀s,0<=s->b<=s*s->c<=s)∧(0<=u∧u<t.aC.length)∧c<=u*t.aZ∧(∀k,0<=k->k<u->k*t.aZ<c)∧c<=kM t:=by
 have hl:=ht.len;have hs:=ht.same;have hst:=ht.step
 have hb:0<=t.aZ*((t.aI.length:Int)-1)∧t.aZ*((t.aI.length:Int)-1)<=100*30:=⟨Int.mul_nonneg za za,Int.mul_le_mul za za za za⟩
 intro a b ha hab hb' hr
 have main:Ok (bZ t a b) (fun r=>∃x c u:Int,r=(t.aI.getD (x.tdiv t.aZ).toNat 0,t.aC.getD u.toNat 0,0)∧(0<=x∧x.tdiv t.aZ<t.aI.length)∧(x*x<=a∧a<(x+1)*(x+1))∧(0<=c∧b<=c*c∧∀s,0<=s->b<=s*s->c<=s)∧(0<=u∧u<t.aC.length)∧c<=u*t.aZ∧(∀k,0<=k->k<u->k*t.aZ<c)∧c<=kM t):=by
  unfold bZ
  rw [fc ht,zd,if_neg sm]
  refine Ok.gv (fun _=>za) (fun _=>Ok.gv (fun _=>za) (fun _=>?_))
  refine Ok.bind (ceil_ok b za hb') (fun c hc=>?_)
  obtain⟨hc0,hc1,hc2⟩:=hc
  have hR':c<=kM t:=hc2 _ hb.1 hr
  unfold kY
  rw [zd,w64 (n:=(t.aI.length:Int)-1) za za,w64 za za]
  refine Ok.gv (fun h=>by unfold kM at hR';omega) (fun h2=>?_)
  refine Ok.bind (search_at ht c za) (fun u hu=>?_)
  refine Ok.bind (floor_ok a za) (fun x hx=>?_)
  obtain⟨⟨x0,x1⟩,x2,x3⟩:=hx
  have x2:=x2 ha
  have hxc:x<=c:=by
   apply Classical.byContradiction
   intro h
   have:(c+1)*(c+1)<=x*x:=Int.mul_le_mul za za za za
   have h4:(c+1)*(c+1)=c*c+2*c+1:=by rw [Int.add_mul,Int.mul_add];omega
   omega
  refine Ok.bind (Ok.quo za) (fun q hq=>?_)
  have hq0:0<=x.tdiv t.aZ:=Int.tdiv_nonneg x0 za
  have hq1:x.tdiv t.aZ<=(t.aI.length:Int)-1:=by
   rw [Int.tdiv_eq_ediv_of_nonneg x0]
   exact Int.ediv_le_of_le_mul za (by rw [Int.mul_comm];omega)
  rw [w64 za za]at hq
  subst hq
  refine Ok.bind (Ok.get hq0 za) (fun p hp=>?_)
  refine Ok.bind (Ok.get hu.1.1 hu.1.2) (fun r hr'=>Ok.ret ⟨x,c,u,?_,⟨x0,za⟩,⟨x2,x3⟩,⟨hc0.1,hc1,hc2⟩,hu.1,hu.2.1,hu.2.2,hR'⟩)
  rw [List.getD_eq_getElem?_getD,List.getD_eq_getElem?_getD,hp.2,hr'.2];rfl
 obtain⟨r,e,x,c,u,hr,h⟩:=main
 exact⟨x,c,u,by rw [e,hr],h⟩
theorem between_le{t:aA}(ht:nO t){n f n' f':Int}(h0:0<=n)(h1:n<=n')(h2:n'<=f')(h3:f'<=f)(hf:f<=65535)(hR:Reach t f):
  ∃lo hi lo' hi',bZ t n f=some (lo,hi,0)∧bZ t n' f'=some (lo',hi',0)∧lo<=lo'∧hi'<=hi:=by
 have hl:=ht.len;have hs:=ht.same;have hst:=ht.step
 have hb:0<=t.aZ*((t.aI.length:Int)-1)∧t.aZ*((t.aI.length:Int)-1)<=100*30:=⟨Int.mul_nonneg za za,Int.mul_le_mul za za za za⟩
 have hR':Reach t f':=Int.le_trans h3 hR
 obtain⟨x,c,u,e,⟨x0,x1⟩,⟨x2,x3⟩,⟨c0,c1,c2⟩,⟨u0,u1⟩,u2,u3, -⟩:=ow ht n f h0 za hf hR
 obtain⟨x',c',u',e',⟨y0,y1⟩,⟨y2,y3⟩,⟨d0,d1,d2⟩,⟨v0,v1⟩,v2,v3, -⟩:=ow ht n' f' za h2 za hR'
 refine⟨_,_,_,_,e,e',?_,?_⟩
 ·have hx:x<=x':=by
   apply Classical.byContradiction
   intro h
   have:(x'+1)*(x'+1)<=x*x:=Int.mul_le_mul za za za za
   omega
  have hd:x.tdiv t.aZ<=x'.tdiv t.aZ:=by
   rw [Int.tdiv_eq_ediv_of_nonneg x0,Int.tdiv_eq_ediv_of_nonneg y0]
   exact Int.ediv_le_ediv za hx
  have k0:0<=x.tdiv t.aZ:=Int.tdiv_nonneg x0 za
  have:=asc_le ht.low (i:=(x.tdiv t.aZ).toNat) (j:=(x'.tdiv t.aZ).toNat) za za
  rw [List.getD_eq_getElem?_getD,List.getD_eq_getElem?_getD,ze za,ze za]
  exact this
 ·have hc:c'<=c:=d2 _ c0 za
  have hu:u'<=u:=by
   apply Classical.byContradiction
   intro h
   have:=v3 u u0 za
   omega
  have:=asc_le ht.high (i:=u'.toNat) (j:=u.toNat) za za
  rw [List.getD_eq_getElem?_getD,List.getD_eq_getElem?_getD,ze za,ze za]
  exact this
theorem near_mono{r b:ag}(h:Sub r b)(p:aa):k9 r p<=k9 b p:=by
 obtain⟨h1,h2,h3⟩:=h
 have k:∀x l h l' h':Int,l'<=l->l<=h->h<=h'->ne x l' h'*ne x l' h'<=ne x l h*ne x l h:=fun x l h l' h' a b c=>sq_le (by unfold ne;omega) (by unfold ne;omega)
 have:=k p.fX _ _ _ _ h1.1 h1.2.1 h1.2.2
 have:=k p.fY _ _ _ _ h2.1 h2.2.1 h2.2.2
 have:=k p.fZ _ _ _ _ h3.1 h3.2.1 h3.2.2
 unfold k9;omega
theorem Sub.trans{a b c:ag}(h:Sub a b)(h':Sub b c):Sub a c:=by
 obtain⟨h1,h2,h3⟩:=h
 obtain⟨k1,k2,k3⟩:=h'
 exact⟨⟨za,za,za⟩,⟨za,za,za⟩,za,za,za⟩
noncomputable def zn (q:ah) (b:ag) (a:aj):aK:=((du q.aW b a).getD (⟨0,0⟩,0)).1
theorem sb{q:ah}(hq:PV q){b:ag}(h:Sub q.aM b){a:aj}(ha:a∈q.a7):du q.aW b a=some (zn q b a,0)∧eK (zn q b a):=by
 obtain⟨r,e,h1,h2⟩:=sub_zone hq h ha
 unfold zn
 rw [e]
 exact⟨by rw [<-h1];rfl,h2⟩
theorem zn_le{q:ah}(hq:PV q){b c:ag}(h:Sub q.aM b)(h':Sub b c){a:aj}(ha:a∈q.a7):(zn q b a).bj<=(zn q c a).bj∧(zn q c a).fTo<=(zn q b a).fTo:=by
 obtain⟨hv,hr⟩:=hq.ph a ha
 have hb:=h.ok hq.box hq.reg
 have hc:=(h.trans h').ok hq.box hq.reg
 obtain⟨hp,p1,p2,p3,p4⟩:=hv
 have hva:dc a=some true:=by
  refine Ok.eq ?_
  unfold dc
  rw [gp hp,zd,if_pos rfl,if_pos (by simpa using p1),if_pos (by simpa using p2),if_pos (by simpa using p3),if_pos (by simp [p4])]
  exact Ok.ret (by simp [p4])
 obtain⟨n1,n2, -⟩:=om hb hp
 obtain⟨f1, -,f3⟩:=qA hb hp
 obtain⟨m1,m2, -⟩:=om hc hp
 obtain⟨g1, -,g3⟩:=qA hc hp
 obtain⟨lo,hi,lo',hi',e1,e2,l1,l2⟩:=between_le hq.tab n2 (near_mono h' a.aN) (lV hc _) (rA h' a.aN) za (Int.le_trans (rA h _) hr)
 have zb:∀{b:ag}(hb:eM b){lo hi:Int},eZ b a.aN=some (k9 b a.aN)->gF b a.aN=some (lg b a.aN)->bZ q.aW (k9 b a.aN) (lg b a.aN)=some (lo,hi,0)->
   du q.aW b a=some (⟨IntKind.wrap .i64 (a.aQ-hi),IntKind.wrap .i64 (a.bw-lo)⟩,0):=by
  intro b hb lo hi h1 h2 h3
  unfold du
  rw [fc hq.tab,zd,if_neg sm,dp hb,zd,if_neg sm,hva,zd,if_neg sm]
  unfold d8 ib
  rw [fc hq.tab,zd,if_neg sm,dp hb,zd,if_neg sm,gp hp,zd,if_neg sm,h1,h2]
  simp only [zd]
  rw [h3];rfl
 have bb:Ok (bZ q.aW (k9 b a.aN) (lg b a.aN)) _:=mT hq.tab _ _ n2 (lV hb _) za
 have cc:Ok (bZ q.aW (k9 c a.aN) (lg c a.aN)) _:=mT hq.tab _ _ m2 (lV hc _) za
 obtain⟨r,e,hr1⟩:=bb
 obtain⟨r',e',hr2⟩:=cc
 rw [e1]at e;rw [e2]at e'
 cases e;cases e'
 have hr1:=hr1.2 rfl
 have hr2:=hr2.2 rfl
 have z1:zn q b a=⟨IntKind.wrap .i64 (a.aQ-hi),IntKind.wrap .i64 (a.bw-lo)⟩:=by unfold zn;rw [zb hb n1 f1 e1];rfl
 have z2:zn q c a=⟨IntKind.wrap .i64 (a.aQ-hi'),IntKind.wrap .i64 (a.bw-lo')⟩:=by unfold zn;rw [zb hc m1 g1 e2];rfl
 rw [z1,z2]
 simp only at hr1 hr2⊢
 rw [w64 (n:=a.aQ-hi) za za,w64 (n:=a.aQ-hi') za za,w64 (n:=a.bw-lo) za za,w64 (n:=a.bw-lo') za za]
 omega
theorem zones_at{q:ah}(hq:PV q){b:ag}(h:Sub q.aM b):fI q b=some (q.a7.map (zn q b),0):=by
 have hl:=hq.len
 refine Ok.eq ?_
 unfold fI
 rw [nN hq,zd,if_neg sm,within_at hq.box hq.reg h,zd,if_neg sm]
 refine Ok.bind (P:=fun r=>r=(q.a7.map (zn q b),0)) ?_ (fun r hr=>by subst hr;exact Ok.ret rfl)
 unfold mF
 refine Ok.bind (Ok.mkC za za za za) (fun x hx=>?_)
 subst hx
 refine Ok.bind (P:=fun o=>o= .inl (q.a7.map (zn q b))) (Ok.loop (fun s:Int×List aK=>(0<=s.1∧s.1<=q.a7.length)∧s.2=(q.a7.take s.1.toNat).map (zn q b)) (fun s=>((q.a7.length:Int)-s.1).toNat) ?_ ⟨⟨sm,sm⟩,sm⟩) (fun o ho=>by subst ho;exact Ok.ret rfl)
 rintro⟨s2,s3⟩ ⟨⟨i0,i1⟩,i2⟩
 simp only at i0 i1 i2
 subst i2
 unfold lu
 refine Ok.gv (fun hlt=>?_) (fun _=>Ok.st ?_)
 rotate_left
 ·rw [List.take_of_length_le za]
 refine Ok.bind (Ok.get za za) (fun a ha=>?_)
 rw [(sb hq h ha.1).1,zd,if_neg sm]
 have ht:(List.map (zn q b) (List.take s2.toNat q.a7)).length<=64:=by rw [List.length_map,List.length_take];omega
 refine Ok.bind (Ok.app (by simp only [List.length_cons,List.length_nil];omega)) (fun y hy=>?_)
 subst hy
 rw [w64 za za]
 refine Ok.nx ⟨⟨zc,zc⟩,?_⟩ zc
 simp only
 rw [show(s2+1).toNat=s2.toNat+1 by omega,List.take_add_one,ha.2]
 simp
theorem res_at{z:aK}(hz:eK z){t:Int}(ht: -5000<=t∧t<=18014398509481984):fw z t=some (res z t):=by
 obtain⟨z1,z2,z3⟩:=hz
 unfold fw
 rw [w64 (n:=t-z.fTo) za za,w64 (n:=z.bj-t) za za]
 congr 1
 unfold res
 split<;>split<;>omega
theorem oC{cap:Int}(hc:0<=cap){t:Int}:∀(ps:List aj)(zs:List aK),(∀a∈ps,0<=a.bJ)->0<=b7 cap ps zs t
 |a::ps,z::zs,ha=>by
  have k1:=oC hc (t:=t) ps zs (fun x hx=>ha x (by simp [hx]))
  have k2:0<=iz cap a.bJ z t:=Int.mul_nonneg (ha a sm) (by unfold res;omega)
  unfold b7;omega
 | [],_,_=>by simp [b7]
 |_::_,[],_=>by simp [b7]
theorem cost_at{q:ah}(hq:PV q){l:List aK}(hll:l.length=q.a7.length)(hz:∀z∈l,eK z){t:Int}(ht: -5000<=t∧t<=18014398509481984):iJ q l t=some (b7 q.cG q.a7 l t):=by
 have hl:=hq.len;have hc:=hq.cap
 refine Ok.eq ?_
 unfold iJ
 refine Ok.bind (P:=fun o=>o=b7 q.cG q.a7 l t) (Ok.loop (fun s:Int×Int=>(0<=s.2∧s.2<=q.a7.length)∧(0<=s.1∧s.1<=1000*s.2)∧s.1+b7 q.cG (q.a7.drop s.2.toNat) (l.drop s.2.toNat) t=b7 q.cG q.a7 l t) (fun s=>((q.a7.length:Int)-s.2).toNat) ?_ ⟨⟨sm,sm⟩,⟨sm,sm⟩,sm⟩) (fun o ho=>by subst ho;exact Ok.ret rfl)
 rintro⟨s1,s2⟩ ⟨⟨i0,i1⟩,⟨i2,i3⟩,i4⟩
 simp only at i0 i1 i2 i3 i4
 unfold mh
 refine Ok.gv (fun hlt=>?_) (fun hge=>Ok.st ?_)
 rotate_left
 ·rw [List.drop_eq_nil_of_le za]at i4
  simp [b7]at i4;exact i4
 refine Ok.bind (Ok.get za za) (fun a ha=>?_)
 refine Ok.gv (fun hlz=>?_) (fun h=>za)
 refine Ok.bind (Ok.get za za) (fun z hz'=>?_)
 rw [res_at (hz z hz'.1) ht,zd,w64 (n:=s2+1) za za]
 have hw:a.bJ=1:=(hq.ph a ha.1).1.weight
 have e1:(if res z t<q.cG then res z t else q.cG)=min q.cG (res z t):=by split<;>omega
 have hr:0<=res z t:=by unfold res;omega
 have e2:iz q.cG a.bJ z t=min q.cG (res z t):=by unfold iz;rw [hw,Int.one_mul]
 rw [e1,hw,Int.one_mul,w64 (n:=min q.cG (res z t)) za za,w64 za za]
 refine Ok.nx ⟨⟨zc,zc⟩,⟨zc,zc⟩,?_⟩ zc
 simp only
 rw [show(s2+1).toNat=s2.toNat+1 by omega]
 obtain⟨j1,ea⟩:=List.getElem?_eq_some_iff.1 ha.2
 obtain⟨j2,ez⟩:=List.getElem?_eq_some_iff.1 hz'.2
 rw [List.drop_eq_getElem_cons j1,List.drop_eq_getElem_cons j2,ea,ez]at i4
 have i5:s1+(iz q.cG a.bJ z t+b7 q.cG (q.a7.drop (s2.toNat+1)) (l.drop (s2.toNat+1)) t)=b7 q.cG q.a7 l t:=i4
 rw [e2]at i5
 omega
structure BestE(q:ah)(l:List aK)(r:Int×Int):Prop where
 mem:r.1∈ends l
 cost:r.2=b7 q.cG q.a7 l r.1
 least:∀e∈ends l,r.2<=b7 q.cG q.a7 l e
theorem ends_snoc{l:List aK}{z:aK}:ends (l++[z])=ends l++[z.bj,z.fTo]:=by
 induction l with
 |nil=>rfl
 |cons y ys ih=>simp [ends,ih]
theorem ends_len{l:List aK}:(ends l).length=2*l.length:=by
 induction l with
 |nil=>rfl
 |cons y ys ih=>simp [ends,ih];omega
theorem best_at{q:ah}(hq:PV q){l:List aK}(hll:l.length=q.a7.length)(hz:∀z∈l,eK z):Ok (iI q l) (BestE q l):=by
 have hl:=hq.len
 have hend:∀e∈ends l, -5000<=e∧e<=18014398509481984:=by
  intro e he
  obtain⟨z,h1,h2⟩:=mem_ends.1 he
  obtain⟨z1,z2,z3⟩:=hz z h1
  omega
 unfold iI
 rw [w64 (n:=2*(l.length:Int)) za za]
 refine Ok.bind (Ok.mkC za za za za) (fun x hx=>?_)
 subst hx
 refine Ok.bind (P:=fun o:List Int=>o=ends l) (Ok.loop (fun s:Int×List Int=>(0<=s.1∧s.1<=l.length)∧s.2=ends (l.take s.1.toNat)) (fun s=>((l.length:Int)-s.1).toNat) ?_ ⟨⟨sm,sm⟩,by simp [ends]⟩) (fun o ho=>?_)
 ·rintro⟨s2,s3⟩ ⟨⟨i0,i1⟩,i2⟩
  simp only at i0 i1 i2
  subst i2
  unfold m5
  refine Ok.gv (fun hlt=>?_) (fun _=>Ok.st (by rw [List.take_of_length_le za]))
  refine Ok.bind (Ok.get za za) (fun z hz=>?_)
  have ht:(ends (List.take s2.toNat l)).length<=128:=by rw [ends_len,List.length_take];omega
  refine Ok.bind (Ok.app (by simp only [List.length_cons,List.length_nil];omega)) (fun y hy=>?_)
  subst hy
  rw [w64 za za]
  refine Ok.nx ⟨⟨zc,zc⟩,?_⟩ zc
  simp only
  rw [show(s2+1).toNat=s2.toNat+1 by omega,List.take_add_one,hz.2,Option.toList_some,ends_snoc]
 ·subst ho
  have hn:(ends l).length=2*l.length:=ends_len
  refine Ok.tI (fun h=>za) (fun _=>?_)
  refine Ok.bind (Ok.tN za za) (fun _ _=>Ok.bind (Ok.get za za) (fun x14 g14=>?_))
  refine Ok.bind (Ok.tN za za) (fun _ _=>Ok.bind (Ok.get za za) (fun x17 g17=>?_))
  have e17:x17=x14:=Option.some.inj (g17.2.symm.trans g14.2)
  subst e17
  rw [cost_at hq hll hz (hend _ g17.1),zd]
  refine Ok.bind (Ok.sub za za za) (fun _ _=>?_)
  refine Ok.bind (Ok.lenv za za) (fun n hn'=>?_)
  have hn2:n=2*(l.length:Int)-1:=by simp at hn';omega
  have hx0:∀(i:Nat)e,(ends l)[i]? =some e->i<1->e=x17:=by
   intro i e h hi
   have:i=0:=by omega
   subst this
   exact Option.some.inj (h.symm.trans g17.2)
  refine Ok.bind (P:=fun o=>BestE q l o) (Ok.loop (fun s:Int×Int×Int=>(0<=s.2.2∧s.2.2<=n)∧s.1∈ends l∧s.2.1=b7 q.cG q.a7 l s.1∧∀(i:Nat)e,(ends l)[i]? =some e->i<s.2.2.toNat+1->s.2.1<=b7 q.cG q.a7 l e) (fun s=>(n-s.2.2).toNat) ?_ ⟨⟨sm,zc⟩,g17.1,rfl,fun i e h hi=>by rw [hx0 i e h (by simpa using hi)];exact Int.le_refl _⟩) (fun o ho=>Ok.ret ho)
  rintro⟨s1,s2,s3⟩ ⟨⟨i0,i1⟩,i2,i3,i4⟩
  simp only at i0 i1 i2 i3 i4
  unfold mg
  refine Ok.gv (fun hlt=>?_) (fun hge=>Ok.st ⟨i2,i3,fun e he=>?_⟩)
  rotate_left
  ·obtain⟨i,hi,rfl⟩:=List.getElem_of_mem he
   exact i4 i _ (ze hi) za
  refine Ok.bind (Ok.inv za za za) (fun _ _=>?_)
  refine Ok.bind (Ok.get za za) (fun x29 g29=>?_)
  rw [cost_at hq hll hz (hend _ g29.1),zd]
  rw [w64 za za]
  have hidx:((0+(1:Int).toNat+s3.toNat:Nat):Int).toNat=s3.toNat+1:=by simp;omega
  rw [hidx]at g29
  have A : ∀ (u v : Int), u ∈ ends l → v = b7 q.cG q.a7 l u → v ≤ s2 → v ≤ b7 q.cG q.a7 l x29 → Ok (some (.next (u, v, s3 + 1)) : Option (fR (Int × Int × Int) (Int × Int))) (Ok.S (fun s : Int × Int × Int => (0 ≤ s.2.2 ∧ s.2.2 ≤ n) ∧ s.1 ∈ ends l ∧ s.2.1 = b7 q.cG q.a7 l s.1 ∧ ∀ (i : Nat) e, (ends l)[i]? = some e → i < s.2.2.toNat + 1 → s.2.1 ≤ b7 q.cG q.a7 l e) (fun s => (n - s.2.2).toNat) (BestE q l) (s1, s2, s3)) := fun u v h1 h2 h3 h4 => Ok.nx ⟨⟨zc, zc⟩, h1, h2, fun i e he hi => by
   simp only at hi⊢
   rw [show(s3+1).toNat=s3.toNat+1 by omega]at hi
   rcases Nat.lt_or_ge i (s3.toNat+1)with h|h
   ·exact Int.le_trans h3 (i4 i e he h)
   ·have:i=s3.toNat+1:=by omega
    subst this
    rw [g29.2]at he
    cases he;exact h4⟩ zc
  refine Ok.gv (fun h=>A _ _ g29.1 rfl za (Int.le_refl _)) (fun h=>Ok.tI (fun h'=>Ok.gv (fun _=>A _ _ g29.1 rfl za (Int.le_refl _)) (fun _=>A _ _ i2 i3 (Int.le_refl _) za)) (fun _=>A _ _ i2 i3 (Int.le_refl _) za))
noncomputable def mis (q:ah) (p:aa):Int:=((ij q p).getD (0,0,0)).2.1
noncomputable def bnd (q:ah) (b:ag):Int:=((eT q b).getD (0,0)).1
theorem bnd_at{q:ah}(hq:PV q){b:ag}(h:Sub q.aM b):eT q b=some (bnd q b,0)∧∃t,BestE q (q.a7.map (zn q b)) (t,bnd q b):=by
 obtain⟨r,e,hr⟩:=best_at hq (l:=q.a7.map (zn q b)) sm (fun z hz=>by obtain⟨a,ha,rfl⟩:=List.mem_map.1 hz;exact(sb hq h ha).2)
 have:eT q b=some (r.2,0):=by unfold eT;rw [zones_at hq h,zd,if_neg sm,e];rfl
 unfold bnd
 rw [this]
 exact⟨rfl,r.1,hr⟩
theorem pF{q:ah}(hq:PV q){p:aa}(h:Sub q.aM ⟨p,p⟩):∃t,ij q p=some (t,mis q p,0)∧BestE q (q.a7.map (zn q ⟨p,p⟩)) (t,mis q p):=by
 obtain⟨r,e,hr⟩:=best_at hq (l:=q.a7.map (zn q ⟨p,p⟩)) sm (fun z hz=>by obtain⟨a,ha,rfl⟩:=List.mem_map.1 hz;exact(sb hq h ha).2)
 have:ij q p=some (r.1,r.2,0):=by unfold ij;rw [zones_at hq h,zd,if_neg sm,e];rfl
 unfold mis
 rw [this]
 exact⟨_,rfl,hr⟩
theorem bnd_le{q:ah}(hq:PV q){b:ag}(h:Sub q.aM b){p:aa}(hp:Sub b ⟨p,p⟩):bnd q b<=mis q p:=by
 obtain⟨-,t,h1,h2,h3⟩:=bnd_at hq h
 obtain⟨t', -,k1,k2,k3⟩:=pF hq (h.trans hp)
 simp only at h1 h2 h3 k1 k2 k3
 have hl:=hq.len;have hc:=hq.cap
 have hw:∀a∈q.a7,0<=a.bJ:=fun a ha=>by have:=(hq.ph a ha).1.weight;omega
 obtain⟨e,he,hle⟩:=least_end (cap:=q.cG) za (ps:=q.a7) (zs:=q.a7.map (zn q b)) (by intro h;simp at h;simp [h]at hl) hw (fun z hz=>by obtain⟨a,ha,rfl⟩:=List.mem_map.1 hz;exact(sb hq h ha).2.2.1) t'
 have hm := costS_mono (cap := q.cG) t' q.a7 (q.a7.map (zn q b)) (q.a7.map (zn q ⟨p, p⟩)) hw sm (fun i h1 h2 => by
  simp only [List.getElem_map]
  exact zn_le hq h hp (List.getElem_mem _))
 have:=h3 e he
 omega
end Go.Dw.Em
set_option maxRecDepth 100000
set_option maxHeartbeats 4000000
namespace Go.Dw.Em
open Go.Dw Go.Proofs
def leI(a b:Item):Prop:=a.cu<b.cu∨(a.cu=b.cu∧a.gE<=b.gE)
instance (a b:Item):Decidable (leI a b):=by unfold leI;exact inferInstance
theorem rE(a:Item):leI a a:=by unfold leI;omega
theorem p9{a b c:Item}(h:leI a b)(h':leI b c):leI a c:=by unfold leI at*;omega
theorem leI_total{a b:Item}(h:¬leI a b):leI b a:=by unfold leI at*;omega
def it0:Item:=⟨⟨⟨0,0,0⟩,⟨0,0,0⟩⟩,0,0⟩
def at_(d:List Item)(i:Nat):Item:=d.getD i it0
theorem nP{d:List Item}{i:Nat}{x:Item}(h:d[i]? =some x):at_ d i=x:=by
 unfold at_;rw [List.getD_eq_getElem?_getD,h];rfl
theorem cmp_or2(a b:Int):cM [a,b]=some (if a≠0 then a else b):=by
 unfold cM
 rw [show((0:Int))=((0:Nat):Int)from rfl,Sd.or_go (l:=[a,b]) (n:=0) (r:=[a,b]) sm za sm]
 by_cases h1:a=0
 ·by_cases h2:b=0
  ·simp [h1,h2]
  ·simp [h1,h2]
 ·simp [h1]
theorem less_at{d:List Item}{i j:Int}(hi:0<=i∧i<d.length)(hj:0<=j∧j<d.length):iM d i j=some (decide (¬leI (at_ d j.toNat) (at_ d i.toNat))):=by
 refine Ok.eq ?_
 unfold iM
 refine Ok.bind (Ok.get hi.1 hi.2) (fun a ga=>?_)
 refine Ok.bind (Ok.get hj.1 hj.2) (fun b gb=>?_)
 rw [Sd.kB,zd]
 refine Ok.bind (Ok.get hi.1 hi.2) (fun a' ga'=>?_)
 refine Ok.bind (Ok.get hj.1 hj.2) (fun b' gb'=>?_)
 rw [Sd.kB,zd]
 obtain rfl:a'=a:=Option.some.inj (ga'.2.symm.trans ga.2)
 obtain rfl:b'=b:=Option.some.inj (gb'.2.symm.trans gb.2)
 rw [cmp_or2,nP ga.2,nP gb.2]
 refine Ok.ret ?_
 rw [decide_eq_decide]
 unfold leI sw
 split<;>split<;>(try split)<;>(try split)<;>omega
theorem swap_at{d:List Item}{i j:Int}(hi:0<=i∧i<d.length)(hj:0<=j∧j<d.length):
  Ok (iN i j d) (fun r=>r.Perm d∧∀k:Nat,at_ r k=if k=j.toNat then at_ d i.toNat else if k=i.toNat then at_ d j.toNat else at_ d k):=by
 unfold iN
 refine Ok.bind (Ok.tN hj.1 hj.2) (fun _ _=>Ok.bind (Ok.get hj.1 hj.2) (fun a ga=>?_))
 refine Ok.bind (Ok.tN hi.1 hi.2) (fun _ _=>Ok.bind (Ok.get hi.1 hi.2) (fun b gb=>?_))
 refine Ok.bind (Ok.tN hi.1 hi.2) (fun _ _=>Ok.bind (Ok.set hi.1 hi.2) (fun e he=>?_))
 subst he
 refine Ok.bind (Ok.tN hj.1 (by simpa using hj.2)) (fun _ _=>Ok.bind (Ok.set hj.1 (by simpa using hj.2)) (fun e he=>?_))
 subst he
 have h1:i.toNat<d.length:=by omega
 have h2:j.toNat<d.length:=by omega
 have ea:=nP ga.2
 have eb:=nP gb.2
 obtain⟨_,rfl⟩:=List.getElem?_eq_some_iff.1 ga.2
 obtain⟨_,rfl⟩:=List.getElem?_eq_some_iff.1 gb.2
 refine Ok.ret ⟨List.set_set_perm h1 h2,fun k=>?_⟩
 split
 ·rename_i hk;subst hk
  rw [eb];exact nP (by rw [List.getElem?_set_self (by simpa using h2)])
 ·rename_i hk
  split
  ·rename_i hk';subst hk'
   rw [ea];exact nP (by rw [List.getElem?_set_ne (Ne.symm hk),List.getElem?_set_self h1])
  ·rename_i hk'
   unfold at_
   rw [List.getD_eq_getElem?_getD,List.getD_eq_getElem?_getD,List.getElem?_set_ne (Ne.symm hk),List.getElem?_set_ne (Ne.symm hk')]
def qC(d:List Item)(n:Nat):Prop:=∀i,0<i->i<n->leI (at_ d ((i-1) / 2)) (at_ d i)
theorem qC.root{d:List Item}{n:Nat}(h:qC d n):∀i,i<n->leI (at_ d 0) (at_ d i):=by
 intro i
 induction i using Nat.strongRecOn with
 |_ i ih=>
  intro hi
  by_cases h0:i=0
  ·subst h0;exact rE _
  ·exact p9 (ih ((i-1) / 2) za za) (h i za hi)
theorem up_heap{q:ah}{a b:Int}{f:Bool}{l:ak}{d:List Item}{j:Int}(hj:0<=j∧j<d.length)(hd:d.length<=1000)
  (h1:∀i,0<i->i<d.length->i≠j.toNat->leI (at_ d ((i-1) / 2)) (at_ d i)) (h2:∀c,0<j.toNat->c<d.length->0<c->(c-1) / 2=j.toNat->leI (at_ d ((j.toNat-1) / 2)) (at_ d c)):
  Ok (oE j q a b f l d) (fun r=>r.Perm d∧qC r d.length):=by
 unfold oE
 refine Ok.bind (P:=fun o:List Item=>o.Perm d∧qC o d.length) (Ok.loop (fun s:Int×List Item=>(0<=s.1∧s.1<d.length)∧s.2.Perm d∧(∀i,0<i->i<d.length->i≠s.1.toNat->leI (at_ s.2 ((i-1) / 2)) (at_ s.2 i))∧(∀c,0<s.1.toNat->c<d.length->0<c->(c-1) / 2=s.1.toNat->leI (at_ s.2 ((s.1.toNat-1) / 2)) (at_ s.2 c))) (fun s=>s.1.toNat) ?_ ⟨hj,List.Perm.refl _,h1,h2⟩) (fun o ho=>Ok.ret ho)
 rintro⟨s1,s2⟩ ⟨⟨i0,i1⟩,i2,i3,i4⟩
 simp only at i0 i1 i2 i3 i4
 have hlen:s2.length=d.length:=i2.length_eq
 unfold nv
 dsimp only
 rw [w64 (n:=s1-1) za za]
 have e:su .i64 (s1-1) 2=some (if s1=0 then 0 else(s1-1) / 2):=by
  unfold su
  rw [if_neg za]
  split
  ·rename_i h;subst h;rfl
  ·rw [Int.tdiv_eq_ediv_of_nonneg za,w64 za za]
 rw [e,zd]
 refine Ok.tI (fun he=>?_) (fun hne=>?_)
 ·rw [zd]
  refine Ok.st ⟨i2,fun i h0 hi=>i3 i h0 hi ?_⟩
  split at he<;>omega
 have hp:s1≠0:=fun h=>hne (by rw [if_pos h,h])
 rw [if_neg hp]
 have hpn:((s1-1) / 2).toNat=(s1.toNat-1) / 2:=by omega
 rw [less_at za za,zd]
 refine Ok.wc (fun hf=>?_) (fun hlt=>?_)
 ·rw [zd]
  refine Ok.st ⟨i2,fun i h0 hi=>?_⟩
  by_cases h:i=s1.toNat
  ·subst h
   rw [<-hpn]
   simpa using hf
  ·exact i3 i h0 hi h
 ·have hlt:¬leI (at_ s2 ((s1-1) / 2).toNat) (at_ s2 s1.toNat):=by simpa using hlt
  have hle:=leI_total hlt
  rw [hpn]at hle
  refine Ok.bind (swap_at za za) (fun y⟨y1,y2⟩=>Ok.nx ⟨⟨zc,zc⟩,y1.trans i2,?_,?_⟩ zc)
  ·simp only
   intro i h0 hi hne'
   rw [hpn]at hne'
   rw [y2,y2,hpn]
   by_cases hij:i=s1.toNat
   ·subst hij
    rw [if_pos rfl,if_neg za,if_pos rfl];exact hle
   ·rw [if_neg hij,if_neg hne']
    by_cases hc:(i-1) / 2=s1.toNat
    ·rw [if_pos hc]
     exact i4 i za hi h0 hc
    ·rw [if_neg hc]
     by_cases hc':(i-1) / 2=(s1.toNat-1) / 2
     ·rw [if_pos hc']
      have:=i3 i h0 hi hij
      rw [hc']at this
      exact p9 hle this
     ·rw [if_neg hc'];exact i3 i h0 hi hij
  ·simp only
   intro c h0 hc hc0 hcp
   rw [hpn]at h0 hcp⊢
   rw [y2,y2,if_neg za,if_neg (by rw [hpn];omega),hpn]
   have k1:=i3 ((s1.toNat-1) / 2) za za za
   by_cases hcs:c=s1.toNat
   ·rw [if_pos hcs];exact k1
   ·rw [if_neg hcs,if_neg za]
    have k2:=i3 c hc0 hc hcs
    rw [hcp]at k2
    exact p9 k1 k2
theorem down_heap{q:ah}{a b:Int}{f:Bool}{l:ak}{d:List Item}{n:Int}(hn:0<=n∧n<d.length)(hd:d.length<=1000)(h1:∀c,0<c->c<n.toNat->(c-1) / 2≠0->leI (at_ d ((c-1) / 2)) (at_ d c)):
  Ok (mN 0 n q a b f l d) (fun r=>(r.2.Perm d∧at_ r.2 n.toNat=at_ d n.toNat)∧qC r.2 n.toNat):=by
 unfold mN
 let I:Int×List Item->Prop:=fun s=>(0<=s.1∧s.1<=n)∧(s.2.Perm d∧at_ s.2 n.toNat=at_ d n.toNat)∧(∀c,0<c->c<n.toNat->(c-1) / 2≠s.1.toNat->leI (at_ s.2 ((c-1) / 2)) (at_ s.2 c))∧(∀c,0<s.1.toNat->0<c->c<n.toNat->(c-1) / 2=s.1.toNat->leI (at_ s.2 ((s.1.toNat-1) / 2)) (at_ s.2 c))
 let Q:Int×List Item->Prop:=fun o=>(o.2.Perm d∧at_ o.2 n.toNat=at_ d n.toNat)∧qC o.2 n.toNat
 refine Ok.bind (P:=Q) (Ok.loop I (fun s=>(n-s.1).toNat) ?_ ⟨⟨sm,hn.1⟩,⟨List.Perm.refl _,rfl⟩,fun c h0 hc hp=>h1 c h0 hc hp,fun c h0=>by simp at h0⟩) (fun o ho=>Ok.ret ho)
 rintro⟨s1,s2⟩ ⟨⟨i0,i1⟩,⟨i2,i3⟩,i4,i5⟩
 simp only at i0 i1 i2 i3 i4 i5
 have hlen:s2.length=d.length:=i2.length_eq
 unfold nR
 dsimp only
 rw [w64 (n:=2*s1) za za,w64 (n:=2*s1+1) za za,w64 (n:=2*s1+1+1) za za]
 refine Ok.gv (fun hge=>Ok.st ⟨⟨i2,i3⟩,fun c h0 hc=>i4 c h0 hc za⟩) (fun hlt1=>Ok.gv (fun _=>za) (fun _=>?_))
 have K:∀j:Int,(j=2*s1+1∨j=2*s1+2)->j<n->(∀c,0<c->c<n.toNat->(c-1) / 2=s1.toNat->leI (at_ s2 j.toNat) (at_ s2 c))->Ok (e7 s2 s1 j) (Ok.S I (fun s=>(n-s.1).toNat) Q (s1,s2)):=fun j hj hjn hmin=>by
  unfold e7
  rw [less_at za za,zd]
  refine Ok.wc (fun hf=>Ok.st ⟨⟨i2,i3⟩,fun c h0 hc=>?_⟩) (fun hlt=>?_)
  ·have hf:leI (at_ s2 s1.toNat) (at_ s2 j.toNat):=by simpa using hf
   by_cases hcp:(c-1) / 2=s1.toNat
   ·rw [hcp];exact p9 hf (hmin c h0 hc hcp)
   ·exact i4 c h0 hc hcp
  ·have hlt:¬leI (at_ s2 s1.toNat) (at_ s2 j.toNat):=by simpa using hlt
   have hle:=leI_total hlt
   refine Ok.bind (swap_at za za) (fun y⟨y1,y2⟩=>Ok.nx ⟨⟨zc,zc⟩,⟨y1.trans i2,?_⟩,?_,?_⟩ zc)
   ·simp only
    rw [y2,if_neg za,if_neg za];exact i3
   ·simp only
    intro c h0 hc hcp
    rw [y2,y2]
    by_cases hcj:c=j.toNat
    ·rw [if_pos hcj,if_neg za,if_pos za];exact hle
    rw [if_neg hcj,if_neg hcp]
    by_cases hcp':(c-1) / 2=s1.toNat
    ·rw [if_pos hcp',if_neg za];exact hmin c h0 hc hcp'
    rw [if_neg hcp']
    by_cases hcs:c=s1.toNat
    ·rw [if_pos hcs]
     have:=i5 j.toNat za za za za
     rw [hcs];exact this
    ·rw [if_neg hcs];exact i4 c h0 hc hcp'
   ·simp only
    intro c h0 hc0 hc hcp
    rw [y2,y2,if_neg za,if_pos za,if_neg za,if_neg za]
    have:=i4 c hc0 hc za
    rw [hcp]at this;exact this
 have two:∀c,0<c->(c-1) / 2=s1.toNat->c=(2*s1+1).toNat∨c=(2*s1+1+1).toNat:=fun c h0 hc=>by omega
 refine Ok.gv (fun h2 => ?_) (fun h2 => K _ (.inl rfl) za (fun c h0 hc hcp => by
  rcases two c h0 hcp with h|h
  ·rw [h];exact rE _
  ·omega))
 rw [less_at za za,zd]
 refine Ok.iteB (fun hlt=>?_) (fun hf=>?_)
 ·have hlt:¬leI (at_ s2 (2*s1+1).toNat) (at_ s2 (2*s1+1+1).toNat):=by simpa using hlt
  exact K _ (.inr za) za (fun c h0 hc hcp => by
   rcases two c h0 hcp with h|h
   ·rw [h];exact leI_total hlt
   ·rw [h];exact rE _)
 ·have hf:leI (at_ s2 (2*s1+1).toNat) (at_ s2 (2*s1+1+1).toNat):=by simpa using hf
  exact K _ (.inl rfl) za (fun c h0 hc hcp => by
   rcases two c h0 hcp with h|h
   ·rw [h];exact rE _
   ·rw [h];exact hf)
theorem at_take{d:List Item}{n i:Nat}(h:i<n):at_ (d.take n) i=at_ d i:=by
 unfold at_
 rw [List.getD_eq_getElem?_getD,List.getD_eq_getElem?_getD,List.getElem?_take,if_pos h]
theorem pop_heap{q:ah}{a b:Int}{f:Bool}{l:ak}{x:Item}{d:List Item}(hd:(x::d).length<=1000)(hh:qC (x::d) (d.length+1)):Ok (n9 q a b f l (x::d)) (fun r=>r.2.Perm d∧qC r.2 d.length):=by
 have hlen:((x::d).length:Int)=d.length+1:=by simp
 simp only [List.length_cons]at hd
 unfold n9 ik
 rw [zd]
 rw [hlen,w64 (n:=(d.length:Int)+1-1) za za]
 refine Ok.bind (swap_at za za) (fun y⟨p1,p2⟩=>?_)
 have hy:y.length=d.length+1:=by have:=p1.length_eq;simpa using this
 have hn:((d.length:Int)+1-1).toNat=d.length:=by omega
 refine Ok.bind (down_heap za za (fun c h0 hc hp=>?_)) (fun z⟨⟨z1,z2⟩,z3⟩=>?_)
 ·rw [hn]at hc
  rw [p2,p2,hn,if_neg za,if_neg (by simpa using hp),if_neg za,if_neg so]
  exact hh c h0 za
 have hz:z.2.length=d.length+1:=by rw [z1.length_eq,hy]
 unfold qd
 rw [hz,w64 (n:=((d.length+1:Nat):Int)-1) za za]
 refine Ok.bind (P:=fun r:Item×List Item=>r.2.Perm d∧qC r.2 d.length) ?_ (fun r hr=>Ok.ret hr)
 refine Ok.bind (Ok.tN za za) (fun _ _=>Ok.bind (Ok.get za za) (fun w _=>?_))
 refine Ok.bind (Ok.sub za za za) (fun _ _=>Ok.ret ?_)
 simp only
 rw [show(((d.length+1:Nat):Int)-1).toNat=d.length by omega]
 rw [hn]at z2 z3
 have e:at_ z.2 d.length=x:=by
  rw [z2,p2,hn,if_pos rfl];rfl
 have hh':d.length<z.2.length:=by omega
 have e:z.2[d.length]=x:=by rw [<-nP (ze hh')];exact e
 have h3:z.2=z.2.take d.length++[x]:=by
  conv=>lhs;rw [<-List.take_append_drop d.length z.2]
  rw [List.drop_eq_getElem_cons hh',e,List.drop_of_length_le za]
 have h4:(z.2.take d.length++[x]).Perm (x::d):=by rw [<-h3];exact z1.trans p1
 have h5:(x::z.2.take d.length).Perm (x::d):=(List.perm_append_comm (l₁:=[x])).trans h4
 refine⟨(List.perm_cons x).1 h5,fun i h0 hi=>?_⟩
 rw [at_take za,at_take hi]
 exact z3 i h0 hi
theorem at_snoc{d:List Item}{x:Item}{i:Nat}(h:i<d.length):at_ (d++[x]) i=at_ d i:=by
 unfold at_
 rw [List.getD_eq_getElem?_getD,List.getD_eq_getElem?_getD,List.getElem?_append_left h]
theorem push_heap{q:ah}{a b:Int}{f:Bool}{l:ak}{x:Item}{d:List Item}(hd:d.length<=500)(hh:qC d d.length):Ok (lk x q a b f l d) (fun r=>r.Perm (x::d)∧qC r (d.length+1)):=by
 unfold lk nB ik
 refine Ok.bind (P:=fun r=>r=d++[x]) (Ok.bind (Ok.app (by simp only [List.length_cons,List.length_nil];omega)) (fun r hr=>Ok.ret hr)) (fun y hy=>?_)
 subst hy
 rw [zd]
 have hl:((d++[x]).length:Int)=d.length+1:=by simp
 have hln:(d++[x]).length=d.length+1:=by simp
 rw [hl,w64 za za]
 refine Ok.bind (up_heap za so (fun i h0 hi hne=>?_) (fun c h0 hc hc0 hcp=>?_)) (fun r hr=>Ok.ret ⟨hr.1.trans (List.perm_append_comm (l₂:=[x])),by rw [<-hln];exact hr.2⟩)
 ·have:i<d.length:=by omega
  rw [at_snoc za,at_snoc this]
  exact hh i h0 this
 ·omega
theorem push1_heap{q:ah}{a b:Int}{f:Bool}{l:ak}{x:Item}:Ok (mM x q a b f l) (fun r=>r.Perm [x]∧qC r 1):=by
 unfold mM oN ik
 refine Ok.bind (P:=fun r=>r=[x]) (Ok.bind (Ok.app sm) (fun r hr=>Ok.ret hr)) (fun y hy=>?_)
 subst hy
 rw [zd]
 rw [w64 sm sm]
 exact Ok.bind (up_ok sm sm) (fun r hr=>Ok.ret ⟨hr,fun i h0 hi=>za⟩)
end Go.Dw.Em
set_option maxRecDepth 100000
set_option maxHeartbeats 4000000
namespace Go.Dw.Em
open Go.Dw Go.Proofs
abbrev In(b:ag)(p:aa):Prop:=Sub b ⟨p,p⟩
theorem center_at{r b:ag}(hr:eM r)(hp:eB 20 r.aI)(h:Sub r b):Ok (fu b) (fun p=>In b p∧(pts b<2->∀x,In b x->x=p)):=by
 have hb:=h.ok hr hp
 obtain⟨⟨l1,l2,l3⟩,h1,h2,h3⟩:=jF hb
 obtain⟨-,s1,s2,s3⟩:=id hb
 obtain⟨x,y,z⟩:=h
 unfold fu bB bG
 rw [dp hb,zd,if_neg sm,zd,zd]
 simp only
 rw [mf za,zd,mf za,zd,mf za,zd]
 refine Ok.ret ⟨⟨zc,zc,zc⟩,fun hn p hin=>?_⟩
 have one:∀{a b c:Int},1<=a->1<=b->1<=c->a*b*c<2->a=1∧b=1∧c=1:=by
  intro a b c ha hb hc h
  have k1:1<=a*b:=by have:=Int.mul_le_mul ha hb za (by omega:(0:Int)<=a);omega
  have k2:a*b<=a*b*c:=by have:=Int.mul_le_mul_of_nonneg_left hc (by omega:0<=a*b);omega
  have k3:c<=a*b*c:=by have:=Int.mul_le_mul_of_nonneg_right k1 (by omega:0<=c);omega
  have k4:a<=a*b:=by have:=Int.mul_le_mul_of_nonneg_left hb (by omega:0<=a);omega
  have k5:b<=a*b:=by have:=Int.mul_le_mul_of_nonneg_right ha (by omega:0<=b);omega
  omega
 obtain⟨o1,o2,o3⟩:=one (a:=b.aC.fX-b.aI.fX+1) (b:=b.aC.fY-b.aI.fY+1) (c:=b.aC.fZ-b.aI.fZ+1) za za za hn
 obtain⟨p1,p2,p3⟩:=p
 obtain⟨i1,i2,i3⟩:=hin
 simp only at i1 i2 i3
 congr 1<;>omega
theorem split_cover{r b:ag}(hr:eM r)(hp:eB 20 r.aI)(h:Sub r b):Ok (fg b) (fun s=>(s.2.2=true->(Sub r s.1∧Sub r s.2.1∧pts s.1+pts s.2.1=pts b)∧∀p,In b p->In s.1 p∨In s.2.1 p)∧(s.2.2=false->pts b<2)):=by
 have h0:=zr hr hp h
 have hb:=h.ok hr hp
 obtain⟨⟨l1,l2,l3⟩,h1,h2,h3⟩:=jF hb
 have hpt:=points_at hb
 obtain⟨-,s1,s2,s3⟩:=id hb
 obtain⟨x,y,z⟩:=h
 suffices hs:Ok (fg b) (fun s=>(s.2.2=true->∀p,In b p->In s.1 p∨In s.2.1 p)∧(s.2.2=false->pts b<2))by
  obtain⟨s,e,k⟩:=hs
  obtain⟨s',e',k'⟩:=h0
  rw [e]at e';cases e'
  exact⟨s,e,fun ht=>⟨k' ht,k.1 ht⟩,k.2⟩
 unfold fg bB bG
 rw [hpt,zd]
 refine Ok.gv (fun hlt=>Ok.ret ⟨sm,fun _=>hlt⟩) (fun hn=>?_)
 have hbig:=one_side (x:=b.aC.fX-b.aI.fX+1) (y:=b.aC.fY-b.aI.fY+1) (z:=b.aC.fZ-b.aI.fZ+1) za za za (by unfold pts at hn;omega)
 simp only [zd]
 rw [w64 (n:=b.aC.fX-b.aI.fX) za za,w64 (n:=b.aC.fY-b.aI.fY) za za,w64 (n:=b.aC.fZ-b.aI.fZ) za za]
 have cX:2<=b.aC.fX-b.aI.fX+1->Ok ((bP b.aI.fX b.aC.fX).bind fun x17=>some (ag.mk b.aI (aa.mk x17 b.aC.fY b.aC.fZ),ag.mk (aa.mk (IntKind.wrap .i64 (x17+(1:Int))) b.aI.fY b.aI.fZ) b.aC,true)) (fun s:ag×ag×Bool=>(s.2.2=true->∀p,In b p->In s.1 p∨In s.2.1 p)∧(s.2.2=false->pts b<2)):=fun h2=>by
  rw [mf za,zd,w64 za za]
  refine Ok.ret ⟨fun _ p⟨i1,i2,i3⟩=>?_,sm⟩
  simp only at i1 i2 i3
  rcases Int.lt_or_le (b.aI.fX+(b.aC.fX-b.aI.fX) / 2) p.fX with h|h
  ·right;exact⟨zc,zc,zc⟩
  ·left;exact⟨zc,zc,zc⟩
 have cY:2<=b.aC.fY-b.aI.fY+1->Ok ((bP b.aI.fY b.aC.fY).bind fun x10=>some (ag.mk b.aI (aa.mk b.aC.fX x10 b.aC.fZ),ag.mk (aa.mk b.aI.fX (IntKind.wrap .i64 (x10+(1:Int))) b.aI.fZ) b.aC,true)) (fun s:ag×ag×Bool=>(s.2.2=true->∀p,In b p->In s.1 p∨In s.2.1 p)∧(s.2.2=false->pts b<2)):=fun h2=>by
  rw [mf za,zd,w64 za za]
  refine Ok.ret ⟨fun _ p⟨i1,i2,i3⟩=>?_,sm⟩
  simp only at i1 i2 i3
  rcases Int.lt_or_le (b.aI.fY+(b.aC.fY-b.aI.fY) / 2) p.fY with h|h
  ·right;exact⟨zc,zc,zc⟩
  ·left;exact⟨zc,zc,zc⟩
 have cZ:2<=b.aC.fZ-b.aI.fZ+1->Ok ((bP b.aI.fZ b.aC.fZ).bind fun x7=>some (ag.mk b.aI (aa.mk b.aC.fX b.aC.fY x7),ag.mk (aa.mk b.aI.fX b.aI.fY (IntKind.wrap .i64 (x7+(1:Int)))) b.aC,true)) (fun s:ag×ag×Bool=>(s.2.2=true->∀p,In b p->In s.1 p∨In s.2.1 p)∧(s.2.2=false->pts b<2)):=fun h2=>by
  rw [mf za,zd,w64 za za]
  refine Ok.ret ⟨fun _ p⟨i1,i2,i3⟩=>?_,sm⟩
  simp only at i1 i2 i3
  rcases Int.lt_or_le (b.aI.fZ+(b.aC.fZ-b.aI.fZ) / 2) p.fZ with h|h
  ·right;exact⟨zc,zc,zc⟩
  ·left;exact⟨zc,zc,zc⟩
 exact Ok.gv (fun _=>Ok.gv (fun _=>cZ za) (fun _=>cY za)) (fun _=>Ok.gv (fun _=>cZ za) (fun _=>cX za))
structure Op(q:ah)(d:List Item):Prop where
 sub:mp q.aM d
 bound:∀x∈d,x.cu=bnd q x.jV
 heap:qC d d.length
structure Bst(q:ah)(l:ak):Prop where
 inn:In q.aM l.aX
 val:ij q l.aX=some (l.bn,l.bq,0)
def Cover(q:ah)(f:Bool)(l:ak)(d:List Item):Prop:=∀p,In q.aM p->(∃x∈d,In x.jV p)∨(f=true∧l.bq<=mis q p)
theorem bst_mis{q:ah}(hq:PV q){l:ak}(h:Bst q l):l.bq=mis q l.aX:=by
 obtain⟨t,e, -⟩:=pF hq h.inn
 rw [h.val]at e
 exact(Prod.mk.inj (Prod.mk.inj (Option.some.inj e)).2).1
theorem add_at{q:ah}(hq:PV q){b:ag}(hb:Sub q.aM b){n k:Int}{f:Bool}{l:ak}{d:List Item}(hd:d.length<=500)(ho:Op q d):Ok (iT b q n k f l d) (fun r=>r.1=0∧Op q r.2.2∧∃x:Item,x.jV=b∧r.2.2.Perm (x::d)):=by
 unfold iT iU
 rw [(bnd_at hq hb).1,zd]
 refine Ok.tI (fun _=>?_) (fun h=>(h rfl).elim)
 refine Ok.bind (push_heap hd ho.heap) (fun r⟨r1,r2⟩=>Ok.ret ⟨rfl,⟨fun x hx=>?_,fun x hx=>?_,?_⟩,_,rfl,r1⟩)
 ·rcases List.mem_cons.1 (r1.mem_iff.1 hx)with rfl|h
  ·exact hb
  ·exact ho.sub x h
 ·rcases List.mem_cons.1 (r1.mem_iff.1 hx)with rfl|h
  ·rfl
  ·exact ho.bound x h
 ·have:r.length=d.length+1:=by rw [r1.length_eq];rfl
  show qC r r.length
  rw [this];exact r2
theorem add1_at{q:ah}(hq:PV q){b:ag}(hb:Sub q.aM b){n k:Int}{f:Bool}{l:ak}:Ok (lz b q n k f l) (fun r=>r.1=0∧Op q r.2.1∧∃x:Item,x.jV=b∧r.2.1.Perm [x]):=by
 unfold lz jC
 rw [(bnd_at hq hb).1,zd]
 refine Ok.tI (fun _=>?_) (fun h=>(h rfl).elim)
 refine Ok.bind push1_heap (fun r⟨r1,r2⟩=>Ok.ret ⟨rfl,⟨fun x hx=>?_,fun x hx=>?_,?_⟩,_,rfl,r1⟩)
 ·rw [List.mem_singleton.1 (r1.mem_iff.1 hx)];exact hb
 ·rw [List.mem_singleton.1 (r1.mem_iff.1 hx)]
 ·have:r.length=1:=by rw [r1.length_eq];rfl
  show qC r r.length
  rw [this];exact r2
theorem look_at{q:ah}(hq:PV q){b:ag}(hb:Sub q.aM b){n k:Int}{f:Bool}{l:ak}{d:List Item}(hf:f=true->Bst q l):
  Ok (kk b q n k f l d) (fun r=>r.1=0∧r.2.1=true∧Bst q r.2.2∧(f=true->r.2.2.bq<=l.bq)∧(pts b<2->∀p,In b p->r.2.2.bq<=mis q p)):=by
 unfold kk
 refine Ok.bind (center_at hq.box hq.reg hb) (fun p⟨hp,hone⟩=>?_)
 obtain⟨t,e, -⟩:=pF hq (hb.trans hp)
 have e1:∀(g:pts b<2)x,In b x->mis q p=mis q x:=fun g x hx=>by rw [hone g x hx]
 rw [e,zd]
 refine Ok.rm (fun h=>(h rfl).elim) (fun _=>?_)
 have hg:Bst q (ak.mk p t (mis q p) 0 (ag.mk (aa.mk 0 0 0) (aa.mk 0 0 0))):=⟨hb.trans hp,e⟩
 refine Ok.wc (fun hff=>Ok.ret ⟨rfl,rfl,hg,fun h=>by rw [h]at hff;simp at hff,fun g x hx=>by rw [e1 g x hx];exact Int.le_refl _⟩) (fun hft=>?_)
 refine Ok.gv (fun hlt=>Ok.ret ⟨rfl,rfl,hg,fun _=>by simp only at hlt⊢;omega,fun g x hx=>by rw [e1 g x hx];exact Int.le_refl _⟩) (fun hge=>?_)
 have ev:l.bq<=mis q p:=by simp only at hge;omega
 refine Ok.tI (fun heq=>?_) (fun _=>Ok.ret ⟨rfl,hft,hf hft,fun _=>Int.le_refl _,fun g x hx=>by rw [<-e1 g x hx];exact ev⟩)
 exact Ok.bind (compare_ok _ _) (fun c _=>Ok.gv (fun _=>Ok.ret ⟨rfl,rfl,hg,fun _=>by simp only at heq⊢;omega,fun g x hx=>by rw [e1 g x hx];exact Int.le_refl _⟩) (fun _=>Ok.ret ⟨rfl,hft,hf hft,fun _=>Int.le_refl _,fun g x hx=>by rw [<-e1 g x hx];exact ev⟩))
theorem ended_at{t:Int}{q:ah}{n k:Int}{f:Bool}{l:ak}{d:List Item}(hs:∀x∈d,0<=x.cu∧x.cu<=1000000)(hl:f=true->0<=l.bq∧l.bq<=1000000):
  Ok (jn t q n k f l d) (fun r=>(r=false->d≠ [])∧(r=true->d=[]∨f=true∧l.bq-(at_ d 0).cu<=t)):=by
 unfold jn
 refine Ok.tI (fun h=>Ok.ret ⟨fun h=>by simp at h,fun _=>.inl (List.length_eq_zero_iff.1 za)⟩) (fun h=>?_)
 have hd:d≠ []:=fun e=>h (by rw [e];rfl)
 have:=List.length_pos_iff.2 hd
 refine Ok.iteB (fun hf=>?_) (fun _=>Ok.ret ⟨fun _=>hd,fun h=>by simp at h⟩)
 refine Ok.bind (Ok.tN za za) (fun _ _=>Ok.bind (Ok.get za za) (fun x hx=>Ok.ret ⟨fun _=>hd,fun h=>.inr ⟨hf,?_⟩⟩))
 have h1:=hs x hx.1
 have h2:=hl hf
 have e:at_ d 0=x:=nP hx.2
 rw [w64 za za]at h
 rw [e];simpa using h
theorem bnd_range{q:ah}(hq:PV q){b:ag}(h:Sub q.aM b):0<=bnd q b∧bnd q b<=1000000:=by
 obtain⟨-,t,h1,h2, -⟩:=bnd_at hq h
 simp only at h1 h2
 have hl:=hq.len;have hc:=hq.cap
 have up:∀(ps:List aj)(zs:List aK),(∀a∈ps,a.bJ=1)->b7 q.cG ps zs t<=1000*ps.length:=by
  intro ps
  induction ps with
  |nil=>intro zs _;simp [b7]
  |cons a ps ih=>
   intro zs hw
   cases zs with
   |nil=>simp [b7];omega
   |cons z zs=>
    have k:=ih zs (fun x hx=>hw x (by simp [hx]))
    show iz q.cG a.bJ z t+b7 q.cG ps zs t<=_
    have:iz q.cG a.bJ z t<=1000:=by unfold iz;rw [hw a sm,Int.one_mul];omega
    simp only [List.length_cons];omega
 have:=up q.a7 (q.a7.map (zn q b)) (fun a ha=>(hq.ph a ha).1.weight)
 have:=oC (cap:=q.cG) za (t:=t) q.a7 (q.a7.map (zn q b)) (fun a ha=>by have:=(hq.ph a ha).1.weight;omega)
 omega
theorem mis_bnd{q:ah}(hq:PV q){p:aa}(h:In q.aM p):mis q p=bnd q ⟨p,p⟩:=by
 obtain⟨-,t,h1,h2,h3⟩:=bnd_at hq h
 obtain⟨t', -,k1,k2,k3⟩:=pF hq h
 have:=h3 _ k1
 have:=k3 _ h1
 simp only at*
 omega
theorem mis_range{q:ah}(hq:PV q){p:aa}(h:In q.aM p):0<=mis q p∧mis q p<=1000000:=by
 rw [mis_bnd hq h];exact bnd_range hq h
theorem step_at{q:ah}(hq:PV q){n k:Int}{f:Bool}{l:ak}{d:List Item}(hd:d≠ [])(ho:Op q d)(hk:0<=k∧k+cnt d<=300)(hf:f=true->Bst q l)(hc:Cover q f l d):
  Ok (kl q n k f l d) (fun r=>r.1=0∧r.2.2.1=k+1∧r.2.2.2.1=true∧Bst q r.2.2.2.2.1∧Op q r.2.2.2.2.2∧Cover q true r.2.2.2.2.1 r.2.2.2.2.2∧k+1+cnt r.2.2.2.2.2<=k+cnt d):=by
 match d,hd with
 |x::d,_=>
  have hlen:=cnt_len hq ho.sub
  have hx:=ho.sub x sm
  have ho':mp q.aM d:=fun y hy=>ho.sub y (List.mem_cons_of_mem _ hy)
  have hpx:=pts_in (hx.ok hq.box hq.reg)
  simp only [List.length_cons]at hlen
  unfold kl
  refine Ok.tI (fun h=>za) (fun _=>?_)
  refine Ok.bind (Ok.tN za sm) (fun _ _=>?_)
  rw [show eV (x::d) (0:Int)=some x from rfl,zd]
  refine Ok.bind (pop_heap (by simp only [List.length_cons];omega) (by simpa using ho.heap)) (fun y⟨hy,hyh⟩=>?_)
  have hyl:y.2.length=d.length:=hy.length_eq
  have hyo:Op q y.2:=⟨ho'.perm hy,fun w hw=>ho.bound w (List.mem_cons_of_mem _ (hy.mem_iff.1 hw)),by rw [hyl];exact hyh⟩
  have hyc:cnt y.2=cnt d:=lR hy
  have hcx:cnt (x::d)=(2*pts x.jV-1)+cnt d:=rfl
  rw [w64 za za]
  refine Ok.bind (look_at hq hx hf) (fun z⟨z1,z2,z3,z4,z5⟩=>?_)
  refine Ok.rm (fun h=>(h z1).elim) (fun _=>?_)
  have cov:∀p,In q.aM p->(∃w∈y.2,In w.jV p)∨z.2.2.bq<=mis q p∨In x.jV p:=fun p hp=>by
   rcases hc p hp with⟨w,hw,hwp⟩|⟨h1,h2⟩
   ·rcases List.mem_cons.1 hw with rfl|hw
    ·exact .inr (.inr hwp)
    ·exact .inl ⟨w,hy.mem_iff.2 hw,hwp⟩
   ·exact .inr (.inl (Int.le_trans (z4 h1) h2))
  refine Ok.bind (split_cover hq.box hq.reg hx) (fun s⟨hs,hsn⟩=>?_)
  refine Ok.wc (fun hsf=>Ok.ret ⟨rfl,rfl,z2,z3,hyo,fun p hp=>?_,zc⟩) (fun hst=>?_)
  ·rcases cov p hp with h|h|h
   ·exact .inl h
   ·exact .inr ⟨rfl,h⟩
   ·exact .inr ⟨rfl,z5 (hsn hsf) p h⟩
  obtain⟨⟨s1,s2,s3⟩,s4⟩:=hs hst
  refine Ok.bind (add_at hq s1 za hyo) (fun u⟨u1,uo,a,ua,up⟩=>?_)
  refine Ok.rm (fun h=>(h u1).elim) (fun _=>?_)
  have hul:u.2.2.length=d.length+1:=by rw [up.length_eq];simp [hyl]
  refine Ok.bind (add_at hq s2 za uo) (fun v⟨v1,vo,b,vb,vp⟩=>Ok.ret ⟨v1,rfl,z2,z3,vo,fun p hp=>?_,?_⟩)
  ·simp only
   rcases cov p hp with⟨w,hw,hwp⟩|h|h
   ·exact .inl ⟨w,vp.mem_iff.2 (List.mem_cons_of_mem _ (up.mem_iff.2 (List.mem_cons_of_mem _ hw))),hwp⟩
   ·exact .inr ⟨trivial,h⟩
   ·rcases s4 p h with h|h
    ·exact .inl ⟨a,vp.mem_iff.2 (List.mem_cons_of_mem _ (up.mem_iff.2 sm)),by rw [ua];exact h⟩
    ·exact .inl ⟨b,vp.mem_iff.2 sm,by rw [vb];exact h⟩
  ·simp only
   rw [lR vp,hcx]
   simp only [cnt]
   rw [lR up]
   simp only [cnt]
   rw [ua,vb];omega
structure Fin(q:ah)(t:Int)(l:ak)(d:List Item):Prop where
 best:Bst q l
 opens:Op q d
 len:d.length<=300
 cover:Cover q true l d
 near:d=[]∨l.bq-(at_ d 0).cu<=t
theorem run_at{q:ah}(hq:PV q){t:Int}(ht:0<=t):Ok (iG q t) (fun r=>r.2=0∧∃s,r.1=some s∧Fin q t s.bS s.kF):=by
 have hpr:=pts_in hq.box
 unfold iG
 rw [nN hq,zd,if_neg sm,if_neg so]
 refine Ok.bind (add1_at hq (Sub.refl hq.box)) (fun x⟨x1,xo,a,xa,xp⟩=>?_)
 refine Ok.rm (fun h=>(h x1).elim) (fun _=>?_)
 have hxc:cnt x.2.1=2*pts q.aM-1:=by rw [lR xp];simp only [cnt];rw [xa];omega
 refine Ok.bind (P:=fun o=>∃y,o= .inl y∧Fin q t y.2.2.2.2 y.1) (Ok.loop (fun s:Int×Int×Bool×ak×List Item=>(0<=s.2.1∧s.2.1+cnt s.2.2.2.2<=300)∧Op q s.2.2.2.2∧(s.2.2.1=true->Bst q s.2.2.2.1)∧(s.2.2.2.2=[]->s.2.2.1=true)∧Cover q s.2.2.1 s.2.2.2.1 s.2.2.2.2) (fun s=>(300-s.2.1).toNat) ?_ ⟨⟨sm,zc⟩,xo,sm,fun h=>?_,fun p hp=>.inl ⟨a,xp.mem_iff.2 sm,by rw [xa];exact hp⟩⟩) (fun o⟨y,ho,h1⟩=>by subst ho;exact Ok.ret ⟨rfl,_,rfl,h1⟩)
 ·rintro⟨s6,s7,s8,s9,s10⟩ ⟨⟨i0,i1⟩,i2,i3,i4,i5⟩
  simp only at i0 i1 i2 i3 i4 i5
  have hl:=cnt_len hq i2.sub
  unfold kJ
  dsimp only
  refine Ok.bind (ended_at (fun x hx=>by rw [i2.bound x hx];exact bnd_range hq (i2.sub x hx)) (fun hf=>by rw [bst_mis hq (i3 hf)];exact mis_range hq (i3 hf).inn)) (fun e he=>?_)
  refine Ok.wc (fun hef=>?_) (fun het=>Ok.st ⟨_,rfl,?_⟩)
  ·have hne:=he.1 hef
   have:=List.length_pos_iff.2 hne
   refine Ok.bind (step_at hq hne i2 ⟨i0,i1⟩ i3 i5) (fun r⟨r1,r2,r3,r4,r5,r6,r7⟩=>?_)
   refine Ok.rm (fun h=>(h r1).elim) (fun _=>?_)
   exact Ok.nx ⟨⟨zc,zc⟩,r5,fun _=>r4,fun _=>r3,by simp only;rw [r3];exact r6⟩ zc
  ·have hft:s8=true:=by
    rcases he.2 het with h|h
    ·exact i4 h
    ·exact h.1
   subst hft
   refine⟨i3 rfl,i2,zc,i5,?_⟩
   rcases he.2 het with h|h
   ·exact .inl h
   ·exact .inr h.2
 ·simp only at h
  rw [h]at hxc
  simp only [cnt]at hxc;omega
structure Least(q:ah)(t:Int)(l:ak):Prop where
 inn:In q.aM l.aX
 val:ij q l.aX=some (l.bn,l.bq,0)
 lower:∀p,In q.aM p->l.fq<=mis q p
 near:∀p,In q.aM p->l.bq-t<=mis q p
theorem rF{q:ah}(hq:PV q){t:Int}(ht:0<=t):Ok (c9 q t) (fun r=>r.2=0∧Least q t r.1):=by
 unfold c9
 refine Ok.bind (run_at hq ht) (fun x⟨x1,s,xs,⟨⟨g1,g2⟩,ho,hs,hc,hn⟩⟩=>?_)
 rw [xs]
 show Ok (if(x.2 != (0:Int))=true then _ else _) _
 refine Ok.rm (fun h=>(h x1).elim) (fun _=>?_)
 refine Ok.bind (P:=fun o:Int×ag=>o.1<=s.bS.bq∧∀x∈s.kF,o.1<=x.cu) (Ok.loop (fun u:Int×Int×ag=>(0<=u.1∧u.1<=s.kF.length)∧Sub q.aM u.2.2∧u.2.1<=s.bS.bq∧∀(i:Nat)x,s.kF[i]? =some x->i<u.1.toNat->u.2.1<=x.cu) (fun u=>((s.kF.length:Int)-u.1).toNat) ?_ ⟨⟨sm,sm⟩,g1,Int.le_refl _,fun i x _ hi=>by simp at hi⟩) (fun o⟨o1,o2⟩=>Ok.ret ⟨rfl,g1,g2,fun p hp=>?_,fun p hp=>?_⟩)
 ·rintro⟨u1,u2,u3⟩ ⟨⟨i0,i1⟩,i2,i3,i4⟩
  simp only at i0 i1 i2 i3 i4
  unfold kI
  refine Ok.gv (fun hlt=>?_) (fun _=>Ok.st ⟨i3,fun x hx=>?_⟩)
  rotate_left
  ·obtain⟨i,hi,rfl⟩:=List.getElem_of_mem hx
   exact i4 i _ (ze hi) za
  refine Ok.bind (Ok.get za za) (fun y hy=>?_)
  rw [w64 za za]
  have nxt:∀(i:Nat)x,s.kF[i]? =some x->i<(u1+1).toNat->(if y.cu<u2 then y.cu else u2)<=x.cu:=fun i x hx hi=>by
   rcases Nat.lt_or_ge i u1.toNat with h|h
   ·have:=i4 i x hx h
    split<;>omega
   ·have:i=u1.toNat:=by omega
    subst this
    rw [hy.2]at hx;cases hx
    split<;>omega
  have low:(if y.cu<u2 then y.cu else u2)<=s.bS.bq:=by split<;>omega
  refine Ok.gv (fun _=>?_) (fun _=>Ok.nx ⟨⟨zc,zc⟩,i2,low,nxt⟩ zc)
  exact Ok.bind (hull_ok hq.box hq.reg i2 (ho.sub y hy.1)) (fun z hz=>Ok.nx ⟨⟨zc,zc⟩,hz,low,nxt⟩ zc)
 ·simp only
  rcases hc p hp with⟨w,hw,hwp⟩|⟨-,h⟩
  ·have:=o2 w hw
   rw [ho.bound w hw]at this
   exact Int.le_trans this (bnd_le hq (ho.sub w hw) hwp)
  ·omega
 ·simp only
  rcases hc p hp with⟨w,hw,hwp⟩|⟨-,h⟩
  ·have k1:=bnd_le hq (ho.sub w hw) hwp
   rw [<-ho.bound w hw]at k1
   obtain⟨i,hi,rfl⟩:=List.getElem_of_mem hw
   have k2:=ho.heap.root i hi
   rw [nP (ze hi)]at k2
   rcases hn with hn|hn
   ·rw [hn]at hi;simp at hi
   ·have:(at_ s.kF 0).cu<=(s.kF[i]).cu:=by unfold leI at k2;omega
    omega
  ·omega
end Go.Dw.Em
namespace Go.Dw
def Lnk(nx bk:List Int):List Nat->Prop
 |a::b::r=>(nx[a]? =some (b:Int)∧bk[b]? =some (a:Int))∧Lnk nx bk (b::r)
 |_=>True
theorem Lnk.congr{nx bk nx' bk':List Int}:∀{l:List Nat},Lnk nx bk l->(∀x∈l.dropLast,nx'[x]? =nx[x]?)->(∀x∈l.tail,bk'[x]? =bk[x]?)->Lnk nx' bk' l
 |a::b::r,⟨⟨h1,h2⟩,h3⟩,hn,hb=>by
  refine⟨⟨by rw [hn a (by simp [List.dropLast]),h1],by rw [hb b sm,h2]⟩,h3.congr (fun x hx=>hn x ?_) (fun x hx=>hb x ?_)⟩
  ·simp only [List.dropLast];exact List.mem_cons_of_mem _ hx
  ·simp only [List.tail_cons]at hx⊢;exact List.mem_cons_of_mem _ hx
 | [],_,_,_=>trivial
 | [_],_,_,_=>trivial
theorem qF{nx bk:List Int}{a:Nat}{m:List Nat}:∀{l:List Nat},Lnk nx bk (l++a::m)↔Lnk nx bk (l++[a])∧Lnk nx bk (a::m)
 | []=>by simp [Lnk]
 | [b]=>by simp [Lnk]
 |b::c::l=>by
  have:=qF (nx:=nx) (bk:=bk) (a:=a) (m:=m) (l:=c::l)
  simp only [List.cons_append,Lnk]at this⊢
  rw [this]
  simp only [and_assoc]
theorem has_last{l:List Nat}(h:l≠ []):∃m p,l=m++[p]:=⟨l.dropLast,l.getLast h,(List.dropLast_concat_getLast h).symm⟩
theorem Lnk.remove{nx bk:List Int}{e i:Nat}{A B:List Nat}(h:Lnk nx bk (e::(A++i::B)++[e]))(hd:(e::(A++i::B)).Nodup):
  ∃p q:Nat,bk[i]? =some (p:Int)∧nx[i]? =some (q:Int)∧p∈e::(A++B)∧q∈e::(A++B)∧Lnk (nx.set p (q:Int)) (bk.set q (p:Int)) (e::(A++B)++[e]):=by
 obtain⟨m,p,hp⟩:=has_last (l:=e::A) sm
 obtain⟨q,n,hq⟩:∃q n,B++[e]=q::n:=by
  cases B with
  |nil=>exact⟨e,[],rfl⟩
  |cons b B=>exact⟨b,B++[e],rfl⟩
 have e1:e::(A++i::B)++[e]=(m++[p])++i::q::n:=by rw [<-hp, <-hq];simp
 have h':Lnk nx bk (m++p::i::q::n):=by rw [e1]at h;simpa using h
 obtain⟨h1,h2⟩:=qF.1 h'
 obtain⟨⟨a1,a2⟩,⟨a3,a4⟩,h3⟩:=h2
 have hpm:p∈e::A:=by rw [hp];simp
 have hqm:q∈B++[e]:=by rw [hq];simp
 rw [List.nodup_cons,List.nodup_append]at hd
 obtain⟨d1,dA,dB,dAB⟩:=hd
 rw [List.nodup_cons]at dB
 have hmp:(m++[p]).Nodup:=by
  rw [<-hp,List.nodup_cons]
  exact⟨fun hh=>d1 (List.mem_append.2 (.inl hh)),dA⟩
 have hpn:p∉m:=fun hh=>by
  rw [List.nodup_append]at hmp
  exact hmp.2.2 p hh p sm rfl
 have e2:e::(A++B)++[e]=m++p::q::n:=by
  have:e::(A++B)++[e]=(e::A)++(B++[e]):=by simp
  rw [this,hp,hq];simp
 refine⟨p,q,a2,a3,?_,?_,?_⟩
 ·rcases List.mem_cons.1 hpm with h|h
  ·exact List.mem_cons.2 (.inl h)
  ·exact List.mem_cons.2 (.inr (List.mem_append.2 (.inl h)))
 ·rcases List.mem_append.1 hqm with h|h
  ·exact List.mem_cons.2 (.inr (List.mem_append.2 (.inr h)))
  ·exact List.mem_cons.2 (.inl (List.mem_singleton.1 h))
 rw [e2,qF]
 have hlp:p<nx.length:=(List.getElem?_eq_some_iff.1 a1).1
 have hlq:q<bk.length:=(List.getElem?_eq_some_iff.1 a4).1
 have memA:∀x,x∈(m++[p]).tail->x∈A:=by
  intro x hx;rw [<-hp]at hx;exact hx
 refine⟨h1.congr (fun x hx=>?_) (fun x hx=>?_),?_⟩
 ·rw [List.dropLast_concat]at hx
  exact List.getElem?_set_ne fun hh=>hpn (by rw [hh];exact hx)
 ·have hxA:=memA x hx
  refine List.getElem?_set_ne fun hh=>?_
  rw [hh]at hqm
  rcases List.mem_append.1 hqm with h|h
  ·exact dAB x hxA x (List.mem_cons_of_mem _ h) rfl
  ·rw [List.mem_singleton.1 h]at hxA
   exact d1 (List.mem_append.2 (.inl hxA))
 ·refine⟨⟨List.getElem?_set_self hlp,List.getElem?_set_self hlq⟩,h3.congr (fun x hx=>?_) (fun x hx=>?_)⟩
  ·rw [<-hq,List.dropLast_concat]at hx
   refine List.getElem?_set_ne fun hh=>?_
   rw [hh]at hpm
   rcases List.mem_cons.1 hpm with h|h
   ·rw [h]at hx;exact d1 (List.mem_append.2 (.inr (List.mem_cons_of_mem _ hx)))
   ·exact dAB x h x (List.mem_cons_of_mem _ hx) rfl
  ·simp only [List.tail_cons]at hx
   refine List.getElem?_set_ne fun hh=>?_
   rw [<-hh]at hx
   cases B with
   |nil=>
    simp only [List.nil_append,List.cons.injEq]at hq
    rw [<-hq.2]at hx;simp at hx
   |cons b B=>
    simp only [List.cons_append,List.cons.injEq]at hq
    obtain⟨rfl,rfl⟩:=hq
    rcases List.mem_append.1 hx with h|h
    ·exact(List.nodup_cons.1 dB.2).1 h
    ·rw [List.mem_singleton.1 h]at d1
     exact d1 (List.mem_append.2 (.inr sm))
end Go.Dw
namespace Go.Dw
section
variable {α:Type} [DecidableEq α]
def rounds(least:Nat)(win mem:List α->List α):Nat->List α->List (List α)×List α
 |0,_=>([],[])
 |_+1,[]=>([],[])
 |n+1,i::r=>
  if least<=(win (i::r)).length∧least<=(mem (win (i::r))).length then
   (mem (win (i::r))::(rounds least win mem n ((i::r).filter fun x=>decide (x∉mem (win (i::r))))).1,(rounds least win mem n ((i::r).filter fun x=>decide (x∉mem (win (i::r))))).2)
  else((rounds least win mem n r).1,i::(rounds least win mem n r).2)
theorem e8(least:Nat)(win mem:List α->List α)(n:Nat)(i:α)(r:List α):rounds least win mem (n+1) (i::r)=
  if least<=(win (i::r)).length∧least<=(mem (win (i::r))).length then
   (mem (win (i::r))::(rounds least win mem n ((i::r).filter fun x=>decide (x∉mem (win (i::r))))).1,(rounds least win mem n ((i::r).filter fun x=>decide (x∉mem (win (i::r))))).2)
  else((rounds least win mem n r).1,i::(rounds least win mem n r).2):=rfl
structure WinOk(win mem:List α->List α):Prop where
 sub:∀l,(win l).Sublist l
 mem:∀l,(mem l).Sublist l
theorem mE{l m:List α}{least:Nat}(h0:1<=least)(hm:m.Sublist l)(h:least<=m.length):(l.filter fun x=>decide (x∉m)).length<l.length:=by
 cases m with
 |nil=>simp at h;omega
 |cons a m=>
  have ha:a∈l:=hm.subset sm
  refine Nat.lt_of_le_of_ne (List.length_filter_le _ _) fun he=>?_
  have:=List.length_filter_eq_length_iff.1 he a ha
  simp at this
variable {least:Nat}{win mem:List α->List α}
theorem l5(h:WinOk win mem)(h0:1<=least):∀(n:Nat)(l:List α),l.length<=n->l.Nodup->((rounds least win mem n l).1.flatten++(rounds least win mem n l).2).Perm l
 |0,l,hl,_=>by simp [List.eq_nil_of_length_eq_zero (Nat.le_zero.1 hl),rounds]
 |n+1,[],_,_=>by simp [rounds]
 |n+1,i::r,hl,hd=>by
  rw [e8]
  split
  ·rename_i hc
   have hs:(mem (win (i::r))).Sublist (i::r):=(h.mem _).trans (h.sub _)
   have hlt:=mE h0 hs hc.2
   have ih:=l5 h h0 n ((i::r).filter fun x=>decide (x∉mem (win (i::r)))) za (hd.sublist List.filter_sublist)
   simp only [List.flatten_cons,List.append_assoc]
   refine(List.Perm.append_left _ ih).trans ?_
   have hmd:=hd.sublist hs
   generalize mem (win (i::r))=m at hs hmd⊢
   generalize i::r=l at hs hd⊢
   have hms:m.Perm (l.filter fun x=>decide (x∈m)):=by
    rw [List.perm_ext_iff_of_nodup hmd (hd.sublist List.filter_sublist)]
    intro x
    simp only [List.mem_filter,decide_eq_true_eq]
    exact⟨fun hx=>⟨hs.subset hx,hx⟩,fun hx=>hx.2⟩
   refine(List.Perm.append_right _ hms).trans ?_
   have:=List.filter_append_perm (fun x=>decide (x∈m)) l
   simpa using this
  ·have ih:=l5 h h0 n r (by simpa using hl) (List.nodup_cons.1 hd).2
   refine List.perm_middle.trans ?_
   exact List.Perm.cons _ ih
theorem rf(n:Nat)(l:List α):∀g∈(rounds least win mem n l).1,least<=g.length:=by
 induction n generalizing l with
 |zero=>intro g hg;simp [rounds]at hg
 |succ n ih=>
  cases l with
  |nil=>intro g hg;simp [rounds]at hg
  |cons i r=>
   intro g hg
   unfold rounds at hg
   split at hg
   ·rename_i hc
    simp only [List.mem_cons]at hg
    rcases hg with rfl|hg
    ·exact hc.2
    ·exact ih _ g hg
   ·exact ih _ g hg
theorem rj{β:Type} [DecidableEq β] {win' mem':List β->List β}{f:α->β}(S:List α)(hf:∀x∈S,∀y∈S,f x=f y->x=y)(h:WinOk win mem):
  ∀(n:Nat)(l:List α),l.Sublist S->(∀l',l'.Sublist S->win' (l'.map f)=(win l').map f∧mem' ((win l').map f)=(mem (win l')).map f)->
   rounds least win' mem' n (l.map f)=((rounds least win mem n l).1.map (List.map f),(rounds least win mem n l).2.map f)
 |0,l,_,_=>rfl
 |n+1,[],_,_=>rfl
 |n+1,i::r,hl,hw=>by
  obtain⟨w1,w2⟩:=hw (i::r) hl
  rw [List.map_cons]at w1⊢
  rw [e8,e8,w1,w2]
  simp only [List.length_map]
  have hs:=(h.mem (win (i::r))).trans (h.sub (i::r))
  split
  ·generalize mem (win (i::r))=m at hs⊢
   have hfil:(f i::r.map f).filter (fun x=>decide (x∉m.map f))=((i::r).filter fun x=>decide (x∉m)).map f:=by
    rw [<-List.map_cons,List.filter_map]
    congr 1
    refine List.filter_congr fun x hx=>?_
    simp only [Function.comp,List.mem_map,decide_eq_decide]
    constructor
    ·intro hn hxm;exact hn ⟨x,hxm,rfl⟩
    ·rintro hn ⟨y,hy,hyx⟩
     have:=hf y (hl.subset (hs.subset hy)) x (hl.subset hx) hyx
     exact hn (this▸hy)
   rw [hfil]
   have ih:=rj S hf h n ((i::r).filter fun x=>decide (x∉m)) (List.filter_sublist.trans hl) hw
   rw [ih]
   simp
  ·have ih:=rj S hf h n r ((List.sublist_cons_self _ _).trans hl) hw
   rw [ih]
   simp
end
end Go.Dw
set_option maxRecDepth 100000
set_option maxHeartbeats 4000000
namespace Go.Dw.Em
open Go.Dw Go.Proofs
abbrev Ph:=aj
abbrev As:=aG
theorem flat_loop{α β ω:Type}{l:List α}{f:α->List β}{g:List β->ω}{body:(Int×List β)->Option (fR (Int×List β) ω)}(hf:∀x∈l,(f x).length<=1)
  (h1:∀(i:Nat)(hi:i<l.length)(acc:List β),acc.length<=i->body ((i:Int),acc)=some (.next (((i+1:Nat):Int),acc++f l[i])))
  (h2:∀acc,acc.length<=l.length->body ((l.length:Int),acc)=some (.stop (g acc))):dW body ((0:Int),[])=some (g (l.flatMap f)):=by
 have key:∀(k i:Nat)(acc:List β),i+k=l.length->acc.length<=i->dW body ((i:Int),acc)=some (g (acc++(l.drop i).flatMap f)):=by
  intro k
  induction k with
  |zero=>
   intro i acc hi ha
   obtain rfl:i=l.length:=by omega
   rw [gI (h2 acc ha)]
   simp
  |succ k ih=>
   intro i acc hi ha
   have hlt:i<l.length:=by omega
   rw [jr (h1 i hlt acc ha),ih (i+1) _ za (by have:=hf _ (List.getElem_mem hlt);rw [List.length_append];omega),List.drop_eq_getElem_cons hlt,List.flatMap_cons,List.append_assoc]
 have:=key l.length 0 [] za sm
 simpa using this
theorem pE{α β ω:Type}{l:List α}{f:α->β}{g:List β->ω}{body:(Int×List β)->Option (fR (Int×List β) ω)}
  (h1:∀(i:Nat)(hi:i<l.length)(acc:List β),acc.length<=i->body ((i:Int),acc)=some (.next (((i+1:Nat):Int),acc++[f l[i]])))
  (h2:∀acc,acc.length<=l.length->body ((l.length:Int),acc)=some (.stop (g acc))):dW body ((0:Int),[])=some (g (l.map f)):=by
 rw [flat_loop (f:=fun x=>[f x]) (fun _ _=>sm) h1 h2]
 rw [<-List.map_eq_flatMap]
theorem or3(a b c:Int):cM [a,b,c]=some (if a≠0 then a else if b≠0 then b else c):=by
 unfold cM
 have:=Sd.or_go (l:=[a,b,c]) (n:=0) (r:=[a,b,c]) sm sm rfl
 rw [show((0:Int))=((0:Nat):Int)from rfl,this]
 by_cases ha:a=0<;>by_cases hb:b=0<;>by_cases hc:c=0<;>simp [List.find?,ha,hb,hc]
def cmpG(a b:aa):Int:=if sw a.fX b.fX≠0 then sw a.fX b.fX else if sw a.fY b.fY≠0 then sw a.fY b.fY else sw a.fZ b.fZ
theorem cmpG_eq(a b:aa):dT a b=some (cmpG a b):=by
 unfold dT
 simp only [Sd.kB,zd,or3]
 rfl
theorem cmpG_tot:Tot cmpG:=(sr.map fun x:aa=>x.fX).or ((sr.map fun x:aa=>x.fY).or (sr.map fun x:aa=>x.fZ))
def cmpF(a b:Ph):Int:=if sw a.aQ b.aQ≠0 then sw a.aQ b.aQ else if sw a.bw b.bw≠0 then sw a.bw b.bw else if cmpG a.aN b.aN≠0 then cmpG a.aN b.aN else sw a.bJ b.bJ
theorem cmpF_eq(a b:Ph):iy a b=some (cmpF a b):=by
 unfold iy
 simp only [Sd.kB,cmpG_eq,zd,Sd.or4]
 rfl
theorem cmpF_tot:Tot cmpF:=(sr.map fun x:Ph=>x.aQ).or ((sr.map fun x:Ph=>x.bw).or ((cmpG_tot.map fun x:Ph=>x.aN).or (sr.map fun x:Ph=>x.bJ)))
def zPh:Ph:=⟨⟨0,0,0⟩,0,0,0⟩
def pj(F:List Ph)(i:Int):Ph:=F.getD i.toNat zPh
theorem phAt_get{F:List Ph}{i:Int}(h0:0<=i)(h1:i<F.length):eV F i=some (pj F i):=by
 rw [gK (i:=i.toNat) za za]
 unfold pj
 rw [List.getD_eq_getElem?_getD,ze za];rfl
theorem phAt_mem{F:List Ph}{i:Int}(h0:0<=i)(h1:i<F.length):pj F i∈F:=by
 unfold pj
 rw [List.getD_eq_getElem?_getD,ze za]
 exact List.getElem_mem _
theorem ins_order{F:List Ph}{l:List Int}(hl:∀i∈l,0<=i∧i<F.length)(hn:l.length<=1000):cv 0 (l.length:Int) l F=some (cW (fun i k=>decide (cmpF (pj F i) (pj F k)<0)) l):=by
 refine Eq.trans (b:=insG (fun i k=>fA i k F) (fun c=>decide (c<0)) 0 (l.length:Int) l) rfl (insG_at (S:=fun i=>0<=i∧i<(F.length:Int)) (fun i k hi hk=>⟨cmpF (pj F i) (pj F k),?_,rfl⟩) hl hn)
 unfold fA
 rw [phAt_get hi.1 hi.2,zd,phAt_get hk.1 hk.2,zd,cmpF_eq];rfl
theorem stable_order{F:List Ph}{l:List Int}(hl:∀i∈l,0<=i∧i<F.length)(hn:l.length<=19):dh l F=some (cW (fun i k=>decide (cmpF (pj F i) (pj F k)<0)) l):=by
 unfold dh ew
 rw [gI (o:=((0:Int),l)) (by unfold fQ;dsimp only;rw [if_neg so]),zd]
 dsimp only
 rw [ins_order hl za,zd,gI (o:=cW (fun i k=>decide (cmpF (pj F i) (pj F k)<0)) l) (by unfold fo;rw [if_neg so];rfl)]
 rfl
def ids(n:Nat):List Int:=(List.range n).map fun i:Nat=>(i:Int)
theorem ids_mem{n:Nat}{i:Int}:i∈ids n↔0<=i∧i<n:=by
 unfold ids
 rw [List.mem_map]
 constructor
 ·rintro⟨k,hk,rfl⟩
  have:=List.mem_range.1 hk
  omega
 ·intro h
  exact⟨i.toNat,List.mem_range.2 za,za⟩
theorem ids_succ(n:Nat):ids (n+1)=ids n++[(n:Int)]:=by unfold ids;rw [List.range_succ,List.map_append];rfl
theorem ids_len(n:Nat):(ids n).length=n:=by unfold ids;simp
theorem ids_asc(n:Nat):(ids n).Pairwise (· < ·):=by
 unfold ids
 rw [List.pairwise_map]
 exact List.pairwise_lt_range.imp fun h=>by omega
structure nY(F:List Ph)(o:List Int):Prop where
 perm:o.Perm (ids F.length)
 lex:o.Pairwise (Lex (fun i k=>cmpF (pj F i) (pj F k)) (· < ·))
theorem order_at{F:List Ph}(hn:F.length<=19):∃o,jE F=some o∧nY F o:=by
 refine⟨_,?_,cp _ _,sortI_lex (cmpF_tot.map (pj F)) (ids_asc F.length)⟩
 refine Ok.eq ?_
 unfold jE
 refine Ok.bind (Ok.mk za za za) (fun x hx=>?_)
 subst hx
 refine Ok.bind (P:=fun o=>o=ids F.length) (Ok.loop (fun s:Int×List Int=>∃i:Nat,i<=F.length∧s=((i:Int),ids i++List.replicate (F.length-i) 0)) (fun s=>((F.length:Int)-s.1).toNat) ?_ ⟨0,Nat.zero_le _,by simp [ids]⟩) (fun o ho=>?_)
 ·rintro s ⟨i,hi,rfl⟩
  unfold mq
  dsimp only
  refine Ok.gv (fun hlt=>?_) (fun hge=>Ok.st ?_)
  rotate_left
  ·obtain rfl:i=F.length:=by simp at hge;omega
   simp
  simp at hlt
  have e:List.replicate (F.length-i) (0:Int)=0::List.replicate (F.length-(i+1)) 0:=by
   rw [show F.length-i=(F.length-(i+1))+1 by omega];rfl
  rw [e,si za (by simp [ids_len];omega),zd,set1 _ _ _ _ (by rw [ids_len]),zd,w64 za za]
  refine Ok.nx ⟨i+1,za,?_⟩ zc
  rw [ids_succ];simp
 ·subst ho
  rw [stable_order (fun i hi=>by have:=ids_mem.1 hi;omega) (by rw [ids_len];omega)]
  exact Ok.ret rfl
theorem fB{nx bk:List Int}{n:Nat}(h:nx.length=n+1)(hn:n<=1000):jc ⟨nx,bk⟩=some (n:Int):=by
 unfold jc
 rw [w64 zc zc]
 simp [h]
theorem Lnk_range{nx bk:List Int}:∀(k m:Nat),(∀j,m<=j->j<m+k->nx[j]? =some ((j+1:Nat):Int)∧bk[j+1]? =some (j:Int))->Lnk nx bk (List.range' m k++[m+k])
 |0,m,_=>trivial
 |k+1,m,h=>by
  have ih:=Lnk_range k (m+1) (fun j h1 h2=>h j za za)
  have h0:=h m (Nat.le_refl _) za
  rw [show m+(k+1)=m+1+k by omega]
  cases k with
  |zero=>exact⟨h0,trivial⟩
  |succ k=>
   rw [List.range'_succ,List.range'_succ]at*
   exact⟨h0,ih⟩
theorem newChain_at{n:Nat}(hn:n<=1000):Ok (gD (n:Int)) (fun r=>r.n8.length=n+1∧r.fback.length=n+1∧Lnk r.n8 r.fback (n::List.range n++[n])):=by
 unfold gD
 rw [w64 za za]
 refine Ok.bind (Ok.mk za za za) (fun x hx=>Ok.bind (Ok.mk za za za) (fun y hy=>?_))
 subst hx hy
 refine Ok.bind (P:=fun o:List Int×List Int=>o.1.length=n+1∧o.2.length=n+1∧∀j,j<=n->o.1[j]? =some (((j+1)%(n+1):Nat):Int)∧o.2[(j+1)%(n+1)]? =some (j:Int))
  (Ok.loop (fun s:Int×List Int×List Int=>∃i:Nat,s.1=(i:Int)∧i<=n+1∧s.2.1.length=n+1∧s.2.2.length=n+1∧∀j,j<i->s.2.1[j]? =some (((j+1)%(n+1):Nat):Int)∧s.2.2[(j+1)%(n+1)]? =some (j:Int)) (fun s=>((n:Int)+1-s.1).toNat) ?_ ⟨0,rfl,za,sm,sm,fun j hj=>za⟩) (fun o ho=>?_)
 ·rintro⟨s1,s2,s3⟩ ⟨i,i0,i1,i2,i3,i4⟩
  simp only at i0 i2 i3 i4
  subst i0
  unfold kz
  dsimp only
  rw [w64 (n:=(n:Int)+1) za za]
  refine Ok.gv (fun hlt=>?_) (fun hge=>Ok.st ?_)
  rotate_left
  ·obtain rfl:i=n+1:=by omega
   exact⟨i2,i3,fun j hj=>i4 j za⟩
  rw [w64 (n:=(i:Int)+1) za za]
  have hr:vN ((i:Int)+1) ((n:Int)+1)=some (((i+1)%(n+1):Nat):Int):=by
   unfold vN
   rw [if_neg za,Int.tmod_eq_emod_of_nonneg za]
   rfl
  have hlt':(i+1)%(n+1)<n+1:=Nat.mod_lt _ za
  rw [hr,zd,zd,si za za,zd,wL (i:=i) rfl za,zd,si za za,zd,wL (i:=(i+1)%(n+1)) rfl za,zd]
  refine Ok.nx ⟨i+1,zc,za,by simpa using i2,by simpa using i3,fun j hj=>?_⟩ zc
  by_cases e:j=i
  ·subst e
   exact⟨List.getElem?_set_self za,List.getElem?_set_self za⟩
  ·have hne:(i+1)%(n+1)≠(j+1)%(n+1):=by
    rw [Nat.mod_eq_of_lt (a:=j+1) za]
    by_cases h:i=n
    ·subst h;simp
    ·rw [Nat.mod_eq_of_lt za];omega
   exact⟨by rw [List.getElem?_set_ne za];exact(i4 j za).1,by rw [List.getElem?_set_ne hne];exact(i4 j za).2⟩
 ·refine Ok.ret ⟨ho.1,ho.2.1,?_⟩
  have h1:Lnk o.1 o.2 (List.range' 0 n++[0+n]):=Lnk_range n 0 fun j _ hj=>by
   have:=ho.2.2 j za
   rw [Nat.mod_eq_of_lt za]at this
   exact this
  have h0:=ho.2.2 n (Nat.le_refl _)
  rw [Nat.mod_self]at h0
  rw [<-List.range_eq_range',Nat.zero_add]at h1
  cases n with
  |zero=>exact⟨h0,trivial⟩
  |succ n=>
   rw [List.range_eq_range',List.range'_succ]at h1⊢
   exact⟨h0,h1⟩
theorem filter_ne{A B:List Nat}{i:Nat}(h:(A++i::B).Nodup):(A++i::B).filter (fun x=>decide (x∉ [i]))=A++B:=by
 rw [List.nodup_append]at h
 obtain⟨_,h2,h3⟩:=h
 rw [List.nodup_cons]at h2
 rw [List.filter_append,List.filter_cons_of_neg sm,List.filter_eq_self.2,List.filter_eq_self.2]
 ·intro x hx
  simp only [List.mem_singleton,decide_eq_true_eq]
  rintro rfl
  exact h2.1 hx
 ·intro x hx
  simp only [List.mem_singleton,decide_eq_true_eq]
  rintro rfl
  exact h3 x hx x sm rfl
structure Ch(n:Nat)(P:List Nat)(nx bk:List Int):Prop where
 ln:nx.length=n+1
 lb:bk.length=n+1
 lnk:Lnk nx bk (n::P++[n])
 nd:(n::P).Nodup
 lt:∀x∈P,x<n
theorem remove_at{n:Nat}{P:List Nat}{nx bk:List Int}(h:Ch n P nx bk){i:Nat}(hi:i∈P):∃nx' bk',kA (i:Int) nx bk=some (nx',bk')∧Ch n (P.filter fun x=>decide (x∉ [i])) nx' bk':=by
 obtain⟨A,B,rfl⟩:=List.append_of_mem hi
 obtain⟨h1,h2,h3,h4,h5⟩:=h
 obtain⟨p,q,b1,b2,hp,hq,hl⟩:=Lnk.remove h3 h4
 have hbd:∀x∈n::(A++B),x<=n:=fun x hx=>by
  rcases List.mem_cons.1 hx with rfl|hx
  ·exact Nat.le_refl _
  ·refine Nat.le_of_lt (h5 x ?_)
   rcases List.mem_append.1 hx with hx|hx
   ·exact List.mem_append.2 (.inl hx)
   ·exact List.mem_append.2 (.inr (List.mem_cons_of_mem _ hx))
 have hp':=hbd p hp;have hq':=hbd q hq;have hi':=h5 i hi
 have nd:=(List.nodup_cons.1 h4).2
 refine⟨nx.set p q,bk.set q p,?_,?_⟩
 ·have gb:eV bk (i:Int)=some (p:Int):=by
   rw [gK (i:=i) rfl za]
   rw [ze za]at b1
   exact b1
  have gn:eV nx (i:Int)=some (q:Int):=by
   rw [gK (i:=i) rfl za]
   rw [ze za]at b2
   exact b2
  unfold kA
  rw [si za za,zd,gb,zd,si za za,zd,gn,zd,zd,zd,zd,zd,si za za,zd,wL (i:=p) rfl za,zd,si za za,zd,wL (i:=q) rfl za,zd]
 ·rw [filter_ne nd]
  refine⟨by simpa using h1,by simpa using h2,hl,?_,fun x hx=>?_⟩
  ·rw [List.nodup_cons]at h4⊢
   refine⟨fun hm=>h4.1 ?_,nd.sublist ((List.sublist_cons_self i B).append_left A)⟩
   rcases List.mem_append.1 hm with hm|hm
   ·exact List.mem_append.2 (.inl hm)
   ·exact List.mem_append.2 (.inr (List.mem_cons_of_mem _ hm))
  ·refine h5 x ?_
   rcases List.mem_append.1 hx with hx|hx
   ·exact List.mem_append.2 (.inl hx)
   ·exact List.mem_append.2 (.inr (List.mem_cons_of_mem _ hx))
end Go.Dw.Em
set_option maxRecDepth 100000
set_option maxHeartbeats 4000000
namespace Go.Dw.Em
open Go.Dw Go.Proofs
theorem flat_filter{α β:Type}(p:α->Bool)(f:α->β):∀l:List α,(l.flatMap fun x=>if p x=true then [f x]else [])=(l.filter p).map f
 | []=>rfl
 |x::l=>by
  rw [List.flatMap_cons,flat_filter p f l]
  by_cases h:p x=true
  ·rw [if_pos h,List.filter_cons_of_pos h];rfl
  ·rw [if_neg h,List.filter_cons_of_neg h];rfl
section
variable {α:Type}
def pX(k:α->Int)(span:Int):List α->List α
 | []=>[]
 |i::r=>((i::r).takeWhile fun j=>decide (k j-k i<=span)).take 16
theorem winK_sub(k:α->Int)(span:Int):∀l,(pX k span l).Sublist l
 | []=>List.Sublist.refl _
 |_::_=>(List.take_sublist _ _).trans (List.takeWhile_sublist _)
theorem winK_cons(k:α->Int){span:Int}(h:0<=span)(i:α)(r:List α):pX k span (i::r)=i::(r.takeWhile fun j=>decide (k j-k i<=span)).take 15:=by
 show((i::r).takeWhile fun j=>decide (k j-k i<=span)).take 16=_
 rw [List.takeWhile_cons_of_pos so]
 rfl
theorem winK_map{β:Type}{k:α->Int}{k':β->Int}{f:α->β}{span:Int}:∀l:List α,(∀x∈l,k' (f x)=k x)->pX k' span (l.map f)=(pX k span l).map f
 | [],_=>rfl
 |i::r,h=>by
  show(((i::r).map f).takeWhile fun j=>decide (k' j-k' (f i)<=span)).take 16=(((i::r).takeWhile fun j=>decide (k j-k i<=span)).take 16).map f
  rw [List.takeWhile_map, <-List.map_take,h i sm]
  congr 2
  have:∀l:List α,(∀x∈l,k' (f x)=k x)->l.takeWhile ((fun j=>decide (k' j-k i<=span))∘f)=l.takeWhile fun j=>decide (k j-k i<=span):=by
   intro l hl
   induction l with
   |nil=>rfl
   |cons x l ih=>
    simp only [List.takeWhile_cons,Function.comp,hl x sm]
    rw [ih fun y hy=>hl y (List.mem_cons_of_mem _ hy)]
  exact this _ h
end
def fK(o:List Int)(j:Nat):Int:=o.getD j 0
def plP(F:List Ph)(o:List Int)(j:Nat):Ph:=pj F (fK o j)
theorem ordAt_get{o:List Int}{j:Nat}(h:j<o.length):eV o (j:Int)=some (fK o j):=by
 rw [gK (i:=j) rfl h]
 unfold fK
 rw [List.getD_eq_getElem?_getD,ze h];rfl
theorem ordAt_mem{o:List Int}{j:Nat}(h:j<o.length):fK o j∈o:=by
 unfold fK
 rw [List.getD_eq_getElem?_getD,ze h]
 exact List.getElem_mem _
theorem nY.len{F:List Ph}{o:List Int}(h:nY F o):o.length=F.length:=by rw [h.perm.length_eq,ids_len]
theorem nY.range{F:List Ph}{o:List Int}(h:nY F o){j:Nat}(hj:j<F.length):0<=fK o j∧fK o j<F.length:=ids_mem.1 (h.perm.mem_iff.1 (ordAt_mem (by rw [h.len];exact hj)))
theorem nY.get{F:List Ph}{o:List Int}(h:nY F o){j:Nat}(hj:j<F.length):eV o (j:Int)=some (fK o j)∧eV F (fK o j)=some (plP F o j)∧plP F o j∈F:=
 ⟨ordAt_get (by rw [h.len];exact hj),phAt_get (h.range hj).1 (h.range hj).2,phAt_mem (h.range hj).1 (h.range hj).2⟩
def m9(l:List Nat):List Int:=l.map fun j:Nat=>(j:Int)
theorem window_loop{n:Nat}{nx bk:List Int}{F:List Ph}{o:List Int}(ho:nY F o)(hn:F.length=n)(hn':n<=1000)(hl:nx.length=n+1)(hF:∀b∈F,0<=b.aQ∧b.aQ<=18014398509481984){a:As}{i:Nat}(hi:i<n):
  ∀(B:List Nat)(acc:List Int),Lnk nx bk (B++[n])->(∀x∈B,x<n)->acc.length<=16->dW (cB nx bk o F (i:Int) a) ((((B++[n]).headD 0:Nat):Int),acc)=
   some (acc++m9 ((B.takeWhile fun j=>decide ((plP F o j).aQ-(plP F o i).aQ<=a.dC)).take (16-acc.length)))
 | [],acc,_,_,_=>by
  rw [gI (o:=acc)]
  ·simp [m9]
  ·unfold cB
   dsimp only
   rw [fB hl hn',zd,if_neg sm]
 |b::B,acc,hL,hB,ha=>by
  have hb:=hB b sm
  obtain⟨g1,g2,g3⟩:=ho.get (j:=b) za
  obtain⟨k1,k2,k3⟩:=ho.get (j:=i) za
  have f1:=hF _ g3;have f2:=hF _ k3
  have hw:IntKind.wrap .i64 ((plP F o b).aQ-(plP F o i).aQ)=(plP F o b).aQ-(plP F o i).aQ:=w64 za za
  have hL':nx[b]? =some (((B++[n]).headD 0:Nat):Int)∧Lnk nx bk (B++[n]):=by
   cases B with
   |nil=>exact⟨hL.1.1,hL.2⟩
   |cons c B=>exact⟨hL.1.1,hL.2⟩
  have hg:eV nx (b:Int)=some (((B++[n]).headD 0:Nat):Int):=by
   rw [gK (i:=b) rfl za]
   have:=hL'.1
   rw [ze za]at this
   exact this
  by_cases h16:acc.length<16
  ·by_cases hc:(plP F o b).aQ-(plP F o i).aQ<=a.dC
   ·have hbody:cB nx bk o F (i:Int) a (((b:Nat):Int),acc)=some (.next ((((B++[n]).headD 0:Nat):Int),acc++[(b:Int)])):=by
     unfold cB
     dsimp only
     rw [fB hl hn',zd,if_pos so,if_pos so,g1,zd,g2,zd,k1,zd,k2,zd,hw,if_pos (by simpa using hc),d5 so,zd,si za za,zd,hg,zd]
    show dW _ (((b:Nat):Int),acc)=_
    rw [jr hbody,window_loop ho hn hn' hl hF hi B _ hL'.2 (fun x hx=>hB x (List.mem_cons_of_mem _ hx)) so,List.takeWhile_cons_of_pos (by simpa using hc)]
    rw [show 16-acc.length=(16-(acc++[(b:Int)]).length)+1 by simp;omega,List.take_succ_cons]
    simp [m9]
   ·have hbody:cB nx bk o F (i:Int) a (((b:Nat):Int),acc)=some (.stop acc):=by
     unfold cB
     dsimp only
     rw [fB hl hn',zd,if_pos so,if_pos so,g1,zd,g2,zd,k1,zd,k2,zd,hw,if_neg (by simpa using hc)]
    show dW _ (((b:Nat):Int),acc)=_
    rw [gI hbody,List.takeWhile_cons_of_neg (by simpa using hc)]
    simp [m9]
  ·have hbody:cB nx bk o F (i:Int) a (((b:Nat):Int),acc)=some (.stop acc):=by
    unfold cB
    dsimp only
    rw [fB hl hn',zd,if_pos so,if_neg so]
   show dW _ (((b:Nat):Int),acc)=_
   rw [gI hbody,show 16-acc.length=0 by omega]
   simp [m9]
theorem Lnk_head{nx bk:List Int}{n:Nat}{P:List Nat}(h:Lnk nx bk (n::P++[n]))(hl:nx.length=n+1):eV nx (n:Int)=some (((P++[n]).headD 0:Nat):Int)∧Lnk nx bk (P++[n]):=by
 have:nx[n]? =some (((P++[n]).headD 0:Nat):Int)∧Lnk nx bk (P++[n]):=by
  cases P with
  |nil=>exact⟨h.1.1,h.2⟩
  |cons c B=>exact⟨h.1.1,h.2⟩
 refine⟨?_,this.2⟩
 have h1:=this.1
 rw [gK (i:=n) rfl za]
 rw [ze za]at h1
 exact h1
theorem window_at{n:Nat}{nx bk:List Int}{F:List Ph}{o:List Int}(ho:nY F o)(hn:F.length=n)(hn':n<=1000)(hF:∀b∈F,0<=b.aQ∧b.aQ<=18014398509481984){a:As}{i:Nat}{r:List Nat}(hc:Ch n (i::r) nx bk):
  lH a F o nx bk=some (m9 (pX (fun j=>(plP F o j).aQ) a.dC (i::r)),nx,bk):=by
 obtain⟨h1,h2⟩:=Lnk_head hc.lnk hc.ln
 unfold lH
 rw [fB hc.ln hn',zd,si za (by have:=hc.ln;omega),zd,h1,zd]
 have h3:=window_loop ho hn hn' hc.ln hF (a:=a) (i:=i) (hc.lt i sm) (i::r) [] h2 hc.lt sm
 have h4:((((i::r)++[n]).headD 0:Nat):Int)=(i:Int):=rfl
 rw [h4]at h3⊢
 rw [h3,zd]
 rfl
theorem residuals_at{q:ah}(hq:PV q){p:aa}(hp:Sub q.aM ⟨p,p⟩){t:Int}(ht: -5000<=t∧t<=18014398509481984):gm q p t=some (q.a7.map (fun b=>res (zn q ⟨p,p⟩ b) t),0):=by
 have hl:=hq.len
 have hz:∀z∈q.a7.map (zn q ⟨p,p⟩),eK z:=fun z hz=>by obtain⟨b,hb,rfl⟩:=List.mem_map.1 hz;exact(sb hq hp hb).2
 unfold gm
 rw [zones_at hq hp,zd,if_neg sm,if_neg so,if_neg so]
 dsimp only
 have hm:mkCO (0:Int) ((q.a7.map (zn q ⟨p,p⟩)).length:Int) (0:Int) 8=some []:=by
  unfold mkCO
  rw [if_pos ⟨za,za,so,so⟩];rfl
 rw [hm,zd,pE (l:=q.a7.map (zn q ⟨p,p⟩)) (f:=fun z=>res z t) (g:=id) (fun i hi acc ha=>?_) (fun acc ha=>?_),zd]
 ·simp [Function.comp]
 ·unfold iK
  dsimp only
  rw [if_pos (by simp at hi⊢;omega),gK (i:=i) rfl hi,zd,res_at (hz _ (List.getElem_mem hi)) ht,zd,d5 (by simp at hi⊢;omega),zd,w64 za (by simp at hi;omega)]
  rfl
 ·unfold iK
  dsimp only
  rw [if_neg sm];rfl
def na(a:As)(ph:List Ph):ah:=⟨a.aM,a.aW,ph,a.cG⟩
noncomputable def loc (a:As) (ph:List Ph):ak:=((c9 (na a ph) a.bf).getD (⟨⟨0,0,0⟩,0,0,0,⟨⟨0,0,0⟩,⟨0,0,0⟩⟩⟩,0)).1
def PhOk(a:As)(F:List Ph):Prop:=∀b∈F,PhV b∧Reach a.aW (lg a.aM b.aN)
theorem qc{s:ar}(hs:iZ s){ph:List Ph}(hp:PhOk s.ae ph)(hl:1<=ph.length∧ph.length<=64):PV (na s.ae ph):=⟨hs.box,hs.reg,hs.tab,hl,hs.cap,hp⟩
theorem loc_at{s:ar}(hs:iZ s){ph:List Ph}(hp:PhOk s.ae ph)(hl:1<=ph.length∧ph.length<=64):
  c9 (na s.ae ph) s.ae.bf=some (loc s.ae ph,0)∧Least (na s.ae ph) s.ae.bf (loc s.ae ph)∧(-5000<=(loc s.ae ph).bn∧(loc s.ae ph).bn<=18014398509481984):=by
 have hq:=qc hs hp hl
 obtain⟨⟨r1,r2⟩,e,h0,hL⟩:=rF hq hs.tol.1
 simp only at h0 hL
 subst h0
 have hloc:loc s.ae ph=r1:=by unfold loc;rw [e];rfl
 rw [hloc]
 refine⟨e,hL,?_⟩
 obtain⟨t,e1,hB⟩:=pF hq hL.inn
 rw [hL.val]at e1
 simp only [Option.some.injEq,Prod.mk.injEq]at e1
 obtain⟨rfl, -⟩:=e1
 obtain⟨z,hz,hzt⟩:=mem_ends.1 hB.mem
 obtain⟨b,hb,rfl⟩:=List.mem_map.1 hz
 have:=(sb hq hL.inn hb).2
 obtain⟨z1,z2,z3⟩:=this
 simp only at hzt
 rcases hzt with h|h<;>omega
noncomputable def fits (a:As) (ph:List Ph) (b:Ph):Bool:=decide (res (zn (na a ph) ⟨(loc a ph).aX,(loc a ph).aX⟩ b) (loc a ph).bn<=a.d9)
noncomputable def pg {α:Type} (a:As) (ph:α->Ph) (w:List α):List α:=w.filter fun j=>fits a (w.map ph) (ph j)
theorem memK_map{α β:Type}{a:As}{ph:α->Ph}{ph':β->Ph}{f:α->β}{w:List α}(h:∀x∈w,ph' (f x)=ph x):pg a ph' (w.map f)=(pg a ph w).map f:=by
 have e:(w.map f).map ph'=w.map ph:=by
  rw [List.map_map]
  exact List.map_congr_left h
 unfold pg
 rw [e,List.filter_map]
 congr 1
 refine List.filter_congr fun x hx=>?_
 simp only [Function.comp,h x hx]
theorem win_ok{α:Type}(a:As)(ph:α->Ph)(span:Int):WinOk (pX (fun j=>(ph j).aQ) span) (pg a ph):=⟨fun l=>winK_sub _ _ l,fun _=>List.filter_sublist⟩
abbrev ci:Int->Int->Bool:=fun x y=>decide (sw x y<0)
theorem gY(l:List Nat):(m9 l).length=l.length:=by simp [m9]
theorem nats_get{l:List Nat}{i:Nat}(h:i<l.length):eV (m9 l) (i:Int)=some ((l[i]:Nat):Int):=by
 rw [gK (i:=i) rfl (by rw [gY];exact h)]
 simp [m9]
theorem sa{n:Nat}{F:List Ph}{o:List Int}(ho:nY F o)(hn:F.length=n):∀(M D P:List Nat)(nx bk acc:List Int),M.Nodup->(∀m∈M,m∈P)->Ch n P nx bk->(D++M).length<=1000->acc.length<=D.length->
  Ok (dW (cx (m9 (D++M)) o) ((D.length:Int),nx,bk,acc)) (fun r=>Ch n (P.filter fun x=>decide (x∉M)) r.1 r.2.1∧r.2.2=acc++M.map (fK o))
 | [],D,P,nx,bk,acc,_,_,hc,_,_=>by
  rw [gI (o:=(nx,bk,acc))]
  ·refine Ok.ret ⟨?_,sm⟩
   rw [List.filter_eq_self.2 sm];exact hc
  ·unfold cx
   dsimp only
   rw [if_neg (by simp [gY])]
 |m::M,D,P,nx,bk,acc,hd,hm,hc,hl,ha=>by
  obtain⟨nx',bk',e,hc'⟩:=remove_at hc (hm m sm)
  have hmlt:=hc.lt m (hm m sm)
  obtain⟨g1,g2,g3⟩:=ho.get (j:=m) za
  have hl':D.length+(M.length+1)<=1000:=by simpa using hl
  have hD:D.length<(D++m::M).length:=by simp
  have hbody:cx (m9 (D++m::M)) o ((D.length:Int),nx,bk,acc)=some (.next (((D++[m]).length:Int),nx',bk',acc++[fK o m])):=by
   unfold cx
   dsimp only
   rw [if_pos (by simp [gY];omega),si za (by simp [gY];omega),zd,nats_get hD,zd]
   have:(D++m::M)[D.length]'hD=m:=by simp
   rw [this,e,zd,g1,zd,d5 so,zd,w64 za za]
   simp
  rw [jr hbody]
  have hd':=List.nodup_cons.1 hd
  have ih := sa ho hn M (D ++ [m]) _ nx' bk' (acc ++ [fK o m]) hd'.2 (fun x hx => by
   refine List.mem_filter.2 ⟨hm x (List.mem_cons_of_mem _ hx),?_⟩
   simp only [List.mem_singleton,decide_eq_true_eq]
   rintro rfl
   exact hd'.1 hx) hc' so so
  have e2:D++[m]++M=D++m::M:=by simp
  rw [e2]at ih
  refine ih.mono fun r hr=>⟨?_,by rw [hr.2];simp⟩
  have e3:List.filter (fun x=>decide (x∉M)) (List.filter (fun x=>decide (x∉ [m])) P)=P.filter fun x=>decide (x∉m::M):=by
   rw [List.filter_filter]
   refine List.filter_congr fun x _=>?_
   by_cases h1:x=m<;>by_cases h2:x∈M<;>simp [h1,h2]
  rw [<-e3]
  exact hr.1
theorem drop_first{n:Nat}{i:Nat}{r:List Nat}(hd:(n::i::r).Nodup):(i::r).filter (fun x=>decide (x∉ [i]))=r:=by
 have:=filter_ne (A:=[]) (i:=i) (B:=r) (List.nodup_cons.1 hd).2
 simpa using this
noncomputable abbrev rnd (a:As) (F:List Ph) (o:List Int) (m:Nat) (P:List Nat):List (List Nat)×List Nat:=rounds a.co.toNat (pX (fun j=>(plP F o j).aQ) a.dC) (pg a (plP F o)) m P
theorem rounds_at{s:ar}(hs:iZ s){n:Nat}{F:List Ph}{o:List Int}(hn:F.length=n)(hF:n<=19)(hph:PhOk s.ae F)(ho:nY F o):
  ∀(m:Nat)(P:List Nat)(nx bk:List Int)(G:List a8)(L:List Int),P.length<=m->Ch n P nx bk->P.length<=n->G.length<=n-P.length->L.length<=n-P.length->
   Ok (dW (bV s.ae F o) (G,L,nx,bk)) (fun r=>∃G',r= .inl (G++G',L++(rnd s.ae F o m P).2.map (fK o))∧G'.map (·.cz)=(rnd s.ae F o m P).1.map fun g=>cW ci (g.map (fK o))):=by
 intro m
 induction m with
 |zero=>
  intro P nx bk G L hP hc _ _ _
  obtain rfl:=List.eq_nil_of_length_eq_zero (Nat.le_zero.1 hP)
  obtain⟨h1,h2⟩:=Lnk_head hc.lnk hc.ln
  rw [gI (o:= .inl (G,L))]
  ·exact Ok.ret ⟨[],by simp [rounds],rfl⟩
  ·unfold bV
   dsimp only
   have hh:((([]++[n]).headD 0:Nat):Int)=(n:Int):=rfl
   rw [fB hc.ln za,zd,si za (by have:=hc.ln;omega),zd,h1,zd,zd,hh,if_neg sm]
 |succ m ih=>
  intro P nx bk G L hP hc hPn hG hL
  obtain⟨h1,h2⟩:=Lnk_head hc.lnk hc.ln
  match P,hP,hc,hPn,hG,hL,h1 with
  | [],hP,hc,hPn,hG,hL,h1=>
   rw [gI (o:= .inl (G,L))]
   ·exact Ok.ret ⟨[],by simp [rounds],rfl⟩
   ·unfold bV
    dsimp only
    have hh:((([]++[n]).headD 0:Nat):Int)=(n:Int):=rfl
    rw [fB hc.ln za,zd,si za (by have:=hc.ln;omega),zd,h1,zd,zd,hh,if_neg sm]
  |i::r,hP,hc,hPn,hG,hL,h1=>
   have hlt:=hc.lt
   have hi:=hlt i sm
   have hh:((((i::r)++[n]).headD 0:Nat):Int)=(i:Int):=rfl
   have hwn:=window_at ho hn za (fun b hb=>⟨(hph b hb).1.early,by have:=(hph b hb).1.late;have:=(hph b hb).1.most;omega⟩) (a:=s.ae) hc
   have hsp:=hs.span.1
   have hwc:=winK_cons (fun j=>(plP F o j).aQ) hsp i r
   have hsub:=winK_sub (fun j=>(plP F o j).aQ) s.ae.dC (i::r)
   generalize hw:pX (fun j=>(plP F o j).aQ) s.ae.dC (i::r)=w at hwn hwc hsub
   have hwl:w.length<=(i::r).length:=hsub.length_le
   have hPn':r.length+1<=n:=by simpa using hPn
   have hwl':w.length<=r.length+1:=by simpa using hwl
   have hw0:1<=w.length:=by rw [hwc];simp
   have hle:=hs.least.1
   have k26:Ok (cw (m9 w,nx,bk) o G L) (fun x=>∃nx' bk',x= .next (G,L++[fK o i],nx',bk')∧Ch n r nx' bk'):=by
    obtain⟨nx',bk',e,hc'⟩:=remove_at hc (i:=i) sm
    rw [drop_first hc.nd]at hc'
    unfold cw
    dsimp only
    have g0:eV (m9 w) (0:Int)=some (i:Int):=by rw [hwc];rfl
    rw [g0,zd,(ho.get (j:=i) za).1,zd,d5 so,zd,zd,e,zd]
    exact Ok.ret ⟨nx',bk',rfl,hc'⟩
   have no:¬(s.ae.co.toNat<=w.length∧s.ae.co.toNat<=(pg s.ae (plP F o) w).length)->∀x,bV s.ae F o (G,L,nx,bk)=some x->(∃nx' bk',x= .next (G,L++[fK o i],nx',bk')∧Ch n r nx' bk')->
     Ok (dW (bV s.ae F o) (G,L,nx,bk)) (fun r'=>∃G',r'= .inl (G++G',L++(rnd s.ae F o (m+1) (i::r)).2.map (fK o))∧G'.map (·.cz)=(rnd s.ae F o (m+1) (i::r)).1.map fun g=>cW ci (g.map (fK o))):=by
    rintro hno x hx ⟨nx',bk',rfl,hc'⟩
    rw [jr hx]
    have:=ih r nx' bk' G (L++[fK o i]) (by simpa using hP) hc' za (by simp at hG;omega) (by simp at hL⊢;omega)
    refine this.mono fun y hy=>?_
    obtain⟨G',e1,e2⟩:=hy
    rw [rnd,e8,hw,if_neg hno]
    exact⟨G',by rw [e1];simp,e2⟩
   have hstart:bV s.ae F o (G,L,nx,bk)=(if(decide (((m9 w).length:Int)>=s.ae.co))=true then((dW (dy (m9 w,nx,bk) o F G L) ((0:Int),([]:(List aj)))).bind fun o40=>(eC s.ae o40.1).bind fun x41=>(c9 x41 s.ae.bf).bind fun x42=>if(x42.2 != (0:Int))=true then(some (.stop (.inr (([]:(List a8)),([]:(List Int)),x42.2))))else((eC s.ae o40.1).bind fun x44=>(gm x44 x42.1.aX x42.1.bn).bind fun x45=>if(x45.2 != (0:Int))=true then(some (.stop (.inr (([]:(List a8)),([]:(List Int)),x45.2))))else((dW (dz (m9 w,nx,bk) x45 s.ae) ((0:Int),([]:(List Int)))).bind fun o57=>if(decide ((o57.length:Int)>=s.ae.co))=true then((dW (cx o57 o) ((0:Int),nx,bk,([]:(List Int)))).bind fun o75=>(tB o75.2.2).bind fun x76=>(pS o40.2.1 [(a8.mk x76 x42.1.aX x42.1.bn)] 56).bind fun x77=>some (.next (x77,o40.2.2,o75.1,o75.2.1)))else(cw (m9 w,nx,bk) o o40.2.1 o40.2.2))))else(cw (m9 w,nx,bk) o G L)):=by
    conv=>lhs;unfold bV
    dsimp only
    rw [fB hc.ln za,zd,si za (by have:=hc.ln;omega),zd,h1,zd,zd,hh,if_pos so,hwn,zd]
   by_cases hc1:s.ae.co.toNat<=w.length
   ·rw [if_pos (by rw [gY];simp;omega)]at hstart
    have hwp:PhOk s.ae (w.map (plP F o)):=fun b hb=>by
     obtain⟨j,hj,rfl⟩:=List.mem_map.1 hb
     exact hph _ (ho.get (j:=j) (by have:=hlt j (hsub.subset hj);omega)).2.2
    have h39:dW (dy (m9 w,nx,bk) o F G L) ((0:Int),([]:(List aj)))=some (w.map (plP F o),G,L):=by
     refine pE (l:=w) (f:=plP F o) (g:=fun x=>(x,G,L)) (fun k hk acc ha=>?_) (fun acc ha=>?_)
     ·have hj:=hlt _ (hsub.subset (List.getElem_mem hk))
      obtain⟨g1,g2,g3⟩:=ho.get (j:=w[k]) za
      unfold dy
      dsimp only
      rw [if_pos (by rw [gY];simp;omega),nats_get hk,zd,g1,zd,g2,zd,d5 so,zd,w64 za za]
      rfl
     ·unfold dy
      dsimp only
      rw [if_neg (by rw [gY];simp)]
    have hpl:1<=(w.map (plP F o)).length∧(w.map (plP F o)).length<=64:=by rw [List.length_map];omega
    obtain⟨e1,e2,e3⟩:=loc_at hs hwp hpl
    have e4:=residuals_at (qc hs hwp hpl) e2.inn e3
    rw [h39,zd]at hstart
    dsimp only at hstart
    have hpr:eC s.ae (w.map (plP F o))=some (na s.ae (w.map (plP F o))):=rfl
    rw [hpr,zd,e1,zd,if_neg sm,zd]at hstart
    dsimp only at hstart
    rw [e4,zd,if_neg sm]at hstart
    have h56:dW (dz (m9 w,nx,bk) ((na s.ae (w.map (plP F o))).a7.map (fun b=>res (zn (na s.ae (w.map (plP F o))) ⟨(loc s.ae (w.map (plP F o))).aX,(loc s.ae (w.map (plP F o))).aX⟩ b) (loc s.ae (w.map (plP F o))).bn),0) s.ae) ((0:Int),([]:(List Int)))=some (m9 (pg s.ae (plP F o) w)):=by
     rw [flat_loop (l:=w) (f:=fun j=>if fits s.ae (w.map (plP F o)) (plP F o j)=true then [(j:Int)]else []) (g:=id) (fun x _=>by split<;>simp) (fun k hk acc ha=>?_) (fun acc ha=>?_)]
     ·congr 1
      exact flat_filter _ _ w
     ·unfold dz
      dsimp only
      have hres:eV ((na s.ae (w.map (plP F o))).a7.map (fun b=>res (zn (na s.ae (w.map (plP F o))) ⟨(loc s.ae (w.map (plP F o))).aX,(loc s.ae (w.map (plP F o))).aX⟩ b) (loc s.ae (w.map (plP F o))).bn)) (k:Int)=some (res (zn (na s.ae (w.map (plP F o))) ⟨(loc s.ae (w.map (plP F o))).aX,(loc s.ae (w.map (plP F o))).aX⟩ (plP F o w[k])) (loc s.ae (w.map (plP F o))).bn):=by
       rw [gK (i:=k) rfl (by simp [na];omega)]
       simp [na]
      rw [if_pos (by rw [gY];simp;omega),nats_get hk,zd,hres,zd,w64 za za]
      by_cases hfit:fits s.ae (w.map (plP F o)) (plP F o w[k])=true
      ·rw [if_pos hfit]
       unfold fits at hfit
       rw [if_pos hfit,d5 so,zd]
       rfl
      ·rw [if_neg hfit]
       unfold fits at hfit
       rw [if_neg hfit,List.append_nil]
       rfl
     ·unfold dz
      dsimp only
      rw [if_neg (by rw [gY];simp)];rfl
    rw [h56,zd]at hstart
    have hmsub:(pg s.ae (plP F o) w).Sublist (i::r):=List.filter_sublist.trans hsub
    generalize hM:pg s.ae (plP F o) w=M at hstart hmsub no
    have hMl:M.length<=r.length+1:=by simpa using hmsub.length_le
    by_cases hc2:s.ae.co.toNat<=M.length
    ·rw [if_pos (by rw [gY];simp;omega)]at hstart
     have hnd:=(List.nodup_cons.1 hc.nd).2
     obtain⟨⟨nx',bk',acc⟩,t1,t2,t3⟩:=sa ho hn M [] (i::r) nx bk [] (hnd.sublist hmsub) (fun x hx=>hmsub.subset hx) hc so sm
     simp only [List.nil_append]at t1 t2 t3
     have t1':dW (cx (m9 M) o) ((0:Int),nx,bk,[])=some (nx',bk',acc):=t1
     rw [t1',zd]at hstart
     dsimp only at hstart
     subst t3
     rw [sort_int so,zd,d5 so,zd]at hstart
     rw [jr hstart]
     have hlt':=mE (least:=s.ae.co.toNat) za hmsub hc2
     have hfl:((i::r).filter fun x=>decide (x∉M)).length<=r.length:=by rw [List.length_cons]at hlt';omega
     have:=ih _ nx' bk' (G++[a8.mk (cW ci (M.map (fK o))) (loc s.ae (w.map (plP F o))).aX (loc s.ae (w.map (plP F o))).bn]) L (by rw [List.length_cons]at hP;omega) t2 za (by rw [List.length_append,List.length_singleton];rw [List.length_cons]at hG;omega) (by rw [List.length_cons]at hL;omega)
     refine this.mono fun y hy=>?_
     obtain⟨G',q1,q2⟩:=hy
     rw [rnd,e8,hw,hM,if_pos ⟨hc1,hc2⟩]
     rw [List.append_assoc]at q1
     refine⟨_,q1,?_⟩
     rw [List.singleton_append,List.map_cons,q2,List.map_cons]
    ·rw [if_neg (by rw [gY];simp;omega)]at hstart
     obtain⟨x,x1,x2⟩:=k26
     exact no (fun h=>hc2 h.2) x (hstart.trans x1) x2
   ·rw [if_neg (by rw [gY];simp;omega)]at hstart
    obtain⟨x,x1,x2⟩:=k26
    exact no (fun h=>hc1 h.1) x (hstart.trans x1) x2
theorem valid_at{s:ar}(hs:iZ s){F:List Ph}(hn:F.length<=256)(hph:PhOk s.ae F):dt s.ae F=some 0:=by
 obtain⟨h1, -,h2,h3,h4,h5,h6,h7,h8,h9,h10,h11⟩:=hs
 have hin:∀{x a b:Int},a<=x->x<=b->d6 x a b=some true:=fun h h'=>by
  unfold d6;rw [if_pos (by simpa using h)];simpa using h'
 unfold dt
 rw [dp h1,zd,if_neg sm,fc h2,zd,if_neg sm,hin za za,zd,if_neg sm,hin za za,zd,if_neg sm,hin za za,zd,if_neg sm,hin za za,zd,if_neg sm,hin za za,zd,if_neg sm,if_neg so]
 have:dW (db F s.ae) (0:Int)=some (.inl ()):=by
  refine mP F.length (fun i hi=>?_) ?_
  ·unfold db
   have hb:=hph _ (List.getElem_mem hi)
   obtain⟨z,e,hz⟩:=sc h2 h1 hb.1
   rw [if_pos so,gK (i:=i) rfl hi,zd,e,zd,if_neg (by simp [hz.1.2 hb.2]),w64 za za]
   rfl
  ·unfold db
   rw [if_neg sm]
 rw [this];rfl
theorem associate_at {s : ar} (hs : iZ s) {F : List Ph} (hF : F.length ≤ 19) (hph : PhOk s.ae F) : ∃ o, nY F o ∧ Ok (f7 s.ae F) (fun r => r.2.2 = 0 ∧
  r.1.map (·.cz)=(rnd s.ae F o F.length (List.range F.length)).1.map (fun g=>cW ci (g.map (fK o)))∧r.2.1=cW ci ((rnd s.ae F o F.length (List.range F.length)).2.map (fK o))):=by
 obtain⟨o,e,ho⟩:=order_at (F:=F) za
 refine⟨o,ho,?_⟩
 unfold f7
 rw [valid_at hs za hph,zd,if_neg sm,e,zd]
 refine Ok.bind (newChain_at (n:=F.length) za) (fun c⟨c1,c2,c3⟩=>?_)
 refine Ok.bind (rounds_at hs rfl hF hph ho F.length (List.range F.length) c.n8 c.fback [] [] sm ⟨c1,c2,c3,?_,fun x hx=>List.mem_range.1 hx⟩ sm sm sm) (fun r hr=>?_)
 ·rw [List.nodup_cons]
  exact⟨sm,List.nodup_range⟩
 ·obtain⟨G',rfl,hG⟩:=hr
  simp only [List.nil_append]
  have hp:((rnd s.ae F o F.length (List.range F.length)).1.flatten++(rnd s.ae F o F.length (List.range F.length)).2).Perm (List.range F.length):=l5 (win_ok s.ae (plP F o) s.ae.dC) (least:=s.ae.co.toNat) (by have:=hs.least.1;omega) F.length (List.range F.length) sm List.nodup_range
  have hl:=hp.length_eq
  rw [List.length_append,List.length_range]at hl
  rw [sort_int (by rw [List.length_map];omega),zd]
  exact Ok.ret ⟨rfl,hG,rfl⟩
end Go.Dw.Em
set_option maxRecDepth 100000
set_option maxHeartbeats 4000000
namespace Go.Dw.Em
open Go.Dw Go.Proofs
open Sd (iC fd eD)
structure UsV(a:ar)(r:aj×ap×Bool):Prop where
 ph:PhV r.1
 reach:Reach a.ae.aW (lg a.ae.aM r.1.aN)
 resp:oo r.2.1.bu
noncomputable def used (a:ar) (v:al) (p:Pick):aj×ap×Bool:=(da a v p).getD (⟨⟨0,0,0⟩,0,0,0⟩,zEp,false)
theorem ry{v:al}(hv:kZ v){s:Sid}{t:Int}{e:ap}(h:px v s t=some e):EpOk e:=by
 unfold px at h
 cases hc:qJ v s with
 |none=>rw [hc]at h;cases h
 |some c=>
  rw [hc]at h
  exact(hv.all c (ru hc).1).2.all e (epIn_mem h).1
theorem rO{e:ap}(he:EpOk e){p:Pick}(hp:io p):PhV ⟨e.aP,p.aQ,p.bw,1⟩:=by
 obtain⟨h0,h1,h2,h3,h4,h5⟩:=hp
 exact⟨he.pos,h1,zc,zc,rfl⟩
theorem nM{a:ar}(ha:iZ a){v:al}(hv:kZ v){p:Pick}(hp:io p):da a v p=some (used a v p)∧((used a v p).2.2=true->UsV a (used a v p)):=by
 have h:Ok (da a v p) (fun r=>r.2.2=true->UsV a r):=by
  unfold da
  rw [o0 hp,zd,if_neg sm,At_eq hv.lens (lm hv),zd]
  cases h:px v p.aw p.bn with
  |none=>
   dsimp only
   rw [if_pos sm]
   exact Ok.ret sm
  |some e=>
   dsimp only
   rw [if_neg sm]
   have he:=ry hv h
   refine Ok.bind (sc ha.tab ha.box (a:=⟨e.aP,p.aQ,p.bw,1⟩) (rO he hp)) (fun z hz=>?_)
   exact Ok.rm (fun _=>Ok.ret sm) (fun h0=>Ok.ret fun _=>⟨rO he hp,hz.1.1 h0,he.resp⟩)
 obtain⟨r,e,hr⟩:=h
 have:used a v p=r:=by unfold used;rw [e];rfl
 rw [this]
 exact⟨e,hr⟩
noncomputable def cq (a:ar) (v:al) (L:List Pick):List Pick:=L.filter fun p=>(used a v p).2.2
noncomputable def mat (a:ar) (v:al) (U:List Pick):aU:=⟨U,U.map fun p=>(used a v p).1,U.map fun p=>(used a v p).2.1⟩
theorem gather_at{a:ar}(ha:iZ a){v:al}(hv:kZ v){l L:List Pick}(hL:dE l=some L)(hl:L.length<=20)(hp:∀p∈L,io p):hJ a v l=some (mat a v (cq a v L),0):=by
 unfold hJ
 rw [set_valid ha,zd,if_neg sm,lm hv,zd,if_neg sm,hL,zd]
 have:Ok (dW (jt L a v) ((0:Int),([]:List ai),([]:List aj),([]:List ap))) (fun o=>o=((mat a v (cq a v L)).dv,(mat a v (cq a v L)).dj,(mat a v (cq a v L)).jG)):=by
  refine Ok.loop (fun s:Int×List Pick×List aj×List ap=>∃i:Nat,i<=L.length∧s=((i:Int),(mat a v (cq a v (L.take i))).dv,(mat a v (cq a v (L.take i))).dj,(mat a v (cq a v (L.take i))).jG)) (fun s=>((L.length:Int)-s.1).toNat) ?_ ⟨0,Nat.zero_le _,rfl⟩
  rintro s ⟨i,i0,rfl⟩
  unfold jt
  dsimp only
  refine Ok.gv (fun hlt=>?_) (fun hge=>Ok.st ?_)
  rotate_left
  ·obtain rfl:i=L.length:=by omega
   rw [List.take_length]
  have hi:i<L.length:=by omega
  have hlu:(cq a v (L.take i)).length<=20:=by
   have:=List.length_filter_le (fun p=>(used a v p).2.2) (L.take i)
   have h2:(L.take i).length<=L.length:=by rw [List.length_take];omega
   unfold cq;omega
  rw [gK rfl hi,zd,(nM ha hv (hp _ (List.getElem_mem hi))).1,zd,w64 za za]
  have ht:cq a v (L.take (i+1))=cq a v (L.take i)++(if(used a v L[i]).2.2=true then [L[i]]else []):=by
   unfold cq
   rw [pB hi,List.filter_append]
   congr 1
   by_cases h:(used a v L[i]).2.2=true<;>simp [h]
  by_cases hu:(used a v L[i]).2.2=true
  ·rw [if_pos hu]at ht⊢
   rw [d5 (by simp only [mat,List.length_cons,List.length_nil];omega),zd,d5 (by simp only [mat,List.length_map,List.length_cons,List.length_nil];omega),zd,d5 (by simp only [mat,List.length_map,List.length_cons,List.length_nil];omega),zd]
   refine Ok.nx ⟨i+1,hi,?_⟩ zc
   rw [ht]
   simp [mat]
  ·rw [if_neg hu]at ht⊢
   refine Ok.nx ⟨i+1,hi,?_⟩ zc
   rw [ht]
   simp
 rw [this.eq,zd]
noncomputable def oX (m:aU) (a:ar):Option (bv×Int):=
 (gl m a).bind fun x3=>if(x3.2 != (0:Int))=true then(some ((bv.mk [] (ak.mk (aa.mk 0 0 0) 0 0 0 (ag.mk (aa.mk 0 0 0) (aa.mk 0 0 0))) (aB.mk 0 0) 0),x3.2))else((c9 x3.1 a.bf).bind fun x5=>if(x5.2 != (0:Int))=true then(some ((bv.mk [] (ak.mk (aa.mk 0 0 0) 0 0 0 (ag.mk (aa.mk 0 0 0) (aa.mk 0 0 0))) (aB.mk 0 0) 0),x5.2))else((c8 m a x5.1.bh).bind fun x7=>if(decide ((x7.length:Int)>(0:Int)))=true then((fG x7).bind fun x9=>if(x9.2 != (0:Int))=true then(some ((bv.mk [] (ak.mk (aa.mk 0 0 0) 0 0 0 (ag.mk (aa.mk 0 0 0) (aa.mk 0 0 0))) (aB.mk 0 0) 0),x9.2))else(some ((bv.mk m.dv x5.1 x9.1 (x7.length:Int)),(0:Int))))else(some ((bv.mk m.dv x5.1 (aB.mk 0 0) 0),(0:Int)))))
theorem solve_at{a:ar}{v:al}{l:List Pick}{m:aU}(h:hJ a v l=some (m,0)):gy a v l=oX m a:=by
 unfold gy
 rw [h,zd,if_neg sm]
 rfl
structure MatP(a:ar)(m:aU):Prop where
 mat:MatV m
 ph:∀b∈m.dj,PhV b∧Reach a.ae.aW (lg a.ae.aM b.aN)
theorem mat_ok{a:ar}(ha:iZ a){v:al}(hv:kZ v){U:List Pick}(hl:U.length<=19)(hp:∀p∈U,io p∧(used a v p).2.2=true):MatP a (mat a v U):=by
 refine⟨⟨⟨by simp [mat],by simp [mat]⟩,hl,fun b hb=>?_,fun e he=>?_⟩,fun b hb=>?_⟩
 ·obtain⟨p,h,rfl⟩:=List.mem_map.1 hb
  exact((nM ha hv (hp p h).1).2 (hp p h).2).ph.pos
 ·obtain⟨p,h,rfl⟩:=List.mem_map.1 he
  exact((nM ha hv (hp p h).1).2 (hp p h).2).resp
 ·obtain⟨p,h,rfl⟩:=List.mem_map.1 hb
  have:=(nM ha hv (hp p h).1).2 (hp p h).2
  exact⟨this.ph,this.reach⟩
theorem p7{l:List Int}(h:l.length<=1000):sQ 8 l=some l:=by
 unfold sQ
 rw [if_pos za]
theorem solve_ok{a:ar}(ha:iZ a){m:aU}(hm:MatP a m):Ok (oX m a) (fun r=>(m.dv=[]->r.2=24)∧(m.dv≠ []->r.2=0∧r.1.ec=m.dv∧(m.dv.length=1->r.1.av.bq=0))∧r.1.ec.length<=19):=by
 obtain⟨hm,hph⟩:=hm
 obtain⟨⟨l1,l2⟩,l3, -, -⟩:=id hm
 have hl:=ha.tab.len;have hs:=ha.tab.same
 unfold oX gl
 by_cases h0:m.dv=[]
 ·rw [if_pos (by simp [l1,h0]),zd,if_pos sm]
  exact Ok.ret ⟨fun _=>rfl,fun h=>(h h0).elim,sm⟩
 have hpos:=List.length_pos_iff.2 h0
 rw [if_neg (by simp;intro e;rw [e]at l1;simp at l1;omega),if_neg so,p7 za,zd,p7 za,zd,zd,if_neg sm]
 have hq:PV ⟨a.ae.aM,⟨a.ae.aW.aZ,a.ae.aW.aI,a.ae.aW.aC⟩,m.dj,a.ae.cG⟩:=⟨ha.box,ha.reg,ha.tab,⟨zc,zc⟩,ha.cap,hph⟩
 refine Ok.bind (locate_ok hq ha.tolerance.1) (fun x⟨x1,x2,x3⟩=>?_)
 refine Ok.rm (fun h=>(h x1).elim) (fun _=>?_)
 refine Ok.bind (rz ha hm (x2.ok ha.box ha.reg)) (fun y hy=>?_)
 have hmis:m.dv.length=1->x.1.bq=0:=fun h=>x3 (by show m.dj.length=1;omega)
 refine Ok.gv (fun hgt=>?_) (fun _=>Ok.ret ⟨fun h=>(h0 h).elim,fun _=>⟨rfl,rfl,hmis⟩,l3⟩)
 refine Ok.bind (network_ok za hy.1 hy.2) (fun z hz=>?_)
 exact Ok.rm (fun h=>(h hz).elim) (fun _=>Ok.ret ⟨fun h=>(h0 h).elim,fun _=>⟨rfl,rfl,hmis⟩,l3⟩)
end Go.Dw.Em
set_option maxRecDepth 100000
set_option maxHeartbeats 4000000
namespace Go.Dw.Em
open Go.Dw Go.Proofs
open Sd (iC fd eD)
def oA(a b:Pick):Int:=if sw a.bn b.bn≠0 then sw a.bn b.bn else ip a b
theorem cmpE_eq(a b:Pick):jx a b=some (oA a b):=by
 unfold jx
 simp only [Sd.kB,jT,zd,cmp_or2]
 rfl
def z0:Pick:=⟨⟨[],[],[],[]⟩,0,0,0,0,0⟩
def nmF(b:Pick)(l:List Pick):Pick:=l.foldl (fun b x=>if oA x b<0 then x else b) b
def nm:List Pick->Pick
 | []=>z0
 |p::l=>nmF p l
theorem name_at{l:List Pick}(hl:l.length<=1000):oD l=some (nm l):=by
 unfold oD
 cases l with
 |nil=>rw [if_pos sm];rfl
 |cons p l=>
  rw [if_neg so]
  unfold eW
  rw [if_neg so,show eV (p::l) (0:Int)=some p from rfl,zd]
  have key:∀(k i:Nat)(b:Pick),i+k=(p::l).length->dW (ct (p::l)) ((i:Int),b.aw.ba,b.aw.aN,b.aw.av,b.aw.bc,b.bn,b.aQ,b.bw,b.bg,b.bz)=
    some (let c:=nmF b ((p::l).drop i);(c.aw.ba,c.aw.aN,c.aw.av,c.aw.bc,c.bn,c.aQ,c.bw,c.bg,c.bz)):=by
   intro k
   induction k with
   |zero=>
    intro i b hi
    obtain rfl:i=(p::l).length:=by omega
    rw [gI (o:=(b.aw.ba,b.aw.aN,b.aw.av,b.aw.bc,b.bn,b.aQ,b.bw,b.bg,b.bz))]
    ·rw [List.drop_length];rfl
    ·unfold ct
     dsimp only
     rw [if_neg sm]
   |succ k ih=>
    intro i b hi
    have hlt:i<(p::l).length:=by omega
    rw [List.drop_eq_getElem_cons hlt]
    have hbody:ct (p::l) ((i:Int),b.aw.ba,b.aw.aN,b.aw.av,b.aw.bc,b.bn,b.aQ,b.bw,b.bg,b.bz)=
      some (.next (let c:=(if oA (p::l)[i] b<0 then(p::l)[i]else b);(((i+1:Nat):Int),c.aw.ba,c.aw.aN,c.aw.av,c.aw.bc,c.bn,c.aQ,c.bw,c.bg,c.bz))):=by
     unfold ct
     dsimp only
     rw [if_pos (by simp at hlt⊢;omega),gK (i:=i) rfl hlt,zd,cmpE_eq,zd,w64 za (by simp at hlt hl;omega)]
     by_cases h:oA (p::l)[i] b<0
     ·rw [if_pos (by simpa using h),if_pos h,zd];rfl
     ·rw [if_neg (by simpa using h),if_neg h];rfl
    rw [jr hbody]
    exact ih (i+1) _ za
  have:=key l.length 1 p so
  have h1:(1:Int)=((1:Nat):Int):=rfl
  rw [h1,this]
  rfl
theorem usable1_at{s:ar}(hs:iZ s){v:al}(hv:kZ v){p:Pick}(hp:io p):jS s v p=some ((used s v p).1,(used s v p).2.2):=by
 unfold jS
 rw [set_valid hs,zd,if_neg sm,lm hv,zd,if_neg sm,(nM hs hv hp).1]
 rfl
noncomputable def phU (s:ar) (v:al) (p:Pick):Ph:=(used s v p).1
theorem eusable_at{s:ar}(hs:iZ s){v:al}(hv:kZ v){l L:List Pick}(hL:dE l=some L)(hl:L.length<=200)(hp:∀p∈L,io p):mD s v l=some (cq s v L,(cq s v L).map (phU s v),0):=by
 unfold mD
 rw [set_valid hs,zd,if_neg sm,lm hv,zd,if_neg sm,hL,zd]
 have hu:∀i,(cq s v (L.take i)).length<=i:=fun i=>by
  have:=List.length_filter_le (fun p=>(used s v p).2.2) (L.take i)
  have h2:(L.take i).length<=i:=by rw [List.length_take];omega
  unfold cq;omega
 have:Ok (dW (ld L s v) ((0:Int),([]:List ai),([]:List aj))) (fun o=>o=(cq s v L,(cq s v L).map (phU s v))):=by
  refine Ok.loop (fun x:Int×List Pick×List aj=>∃i:Nat,i<=L.length∧x=((i:Int),cq s v (L.take i),(cq s v (L.take i)).map (phU s v))) (fun x=>((L.length:Int)-x.1).toNat) ?_ ⟨0,Nat.zero_le _,rfl⟩
  rintro x ⟨i,i0,rfl⟩
  unfold ld
  dsimp only
  refine Ok.gv (fun hlt=>?_) (fun hge=>Ok.st ?_)
  rotate_left
  ·obtain rfl:i=L.length:=by omega
   rw [List.take_length]
  have hi:i<L.length:=by omega
  have hlu:=hu i
  rw [gK rfl hi,zd,usable1_at hs hv (hp _ (List.getElem_mem hi)),zd,w64 za za]
  have ht:cq s v (L.take (i+1))=cq s v (L.take i)++(if(used s v L[i]).2.2=true then [L[i]]else []):=by
   unfold cq
   rw [pB hi,List.filter_append]
   congr 1
   by_cases h:(used s v L[i]).2.2=true<;>simp [h]
  by_cases h:(used s v L[i]).2.2=true
  ·rw [if_pos h]at ht⊢
   rw [d5 so,zd,d5 so,zd]
   refine Ok.nx ⟨i+1,hi,?_⟩ zc
   rw [ht]
   simp [phU]
  ·rw [if_neg h]at ht⊢
   refine Ok.nx ⟨i+1,hi,?_⟩ zc
   rw [ht]
   simp
 have hl':=hu L.length
 rw [List.take_length]at hl'
 rw [this.eq,zd]
 dsimp only
 rw [if_neg so]
noncomputable def cmpA (s:ar) (v:al) (a b:Pick):Int:=if cmpF (phU s v a) (phU s v b)≠0 then cmpF (phU s v a) (phU s v b)else ip a b
theorem cmpA_tot(s:ar)(v:al):Tot (cmpA s v):=(cmpF_tot.map (phU s v)).or cy
theorem cmpA_zero{s:ar}{v:al}{a b:Pick}(h:cmpA s v a b=0):a=b:=by
 unfold cmpA at h
 exact je (mY h).2
noncomputable def ko (s:ar) (v:al) (U:List Pick):List Pick:=cW (fun a b=>decide (cmpA s v a b<0)) U
theorem gQ{α:Type}{c:α->α->Int}(hc:Tot c)(h0:∀x y,c x y=0->x=y){l:List α}(hl:l.Nodup):(cW (fun x y=>decide (c x y<0)) l).Pairwise (fun x y=>c x y<0):=by
 have h1:=sortI_le hc l
 have h2:(cW (fun x y=>decide (c x y<0)) l).Nodup:=(cp _ l).nodup_iff.2 hl
 refine(h1.and h2).imp fun{x y}h=>?_
 rcases Int.lt_or_eq_of_le h.1 with h3|h3
 ·exact h3
 ·exact(h.2 (h0 x y h3)).elim
theorem gR{α:Type}{c:α->α->Int}(hc:Tot c){l:List α}(h:l.Pairwise (fun x y=>c x y<0)):l.Nodup:=h.imp fun{x y}h e=>by
 subst e
 have:=hc.refl x
 omega
noncomputable abbrev cP:Pick->Pick->Bool:=fun x y=>decide (ip x y<0)
noncomputable abbrev cE:aH->aH->Bool:=fun x y=>decide (oA x.cb y.cb<0)
noncomputable def rX (s:ar) (v:al) (O:List Pick):List (List Pick)×List Pick:=rounds s.ae.co.toNat (pX (fun p=>(phU s v p).aQ) s.ae.dC) (pg s.ae (phU s v)) O.length O
noncomputable def sol (s:ar) (v:al) (m:List Pick):bv:=((oX (mat s v m) s).getD (⟨[],⟨⟨0,0,0⟩,0,0,0,⟨⟨0,0,0⟩,⟨0,0,0⟩⟩⟩,⟨0,0⟩,0⟩,0)).1
noncomputable def evM (s:ar) (v:al) (m:List Pick):aH:=⟨nm m,sol s v m⟩
def UsOk(s:ar)(v:al)(U:List Pick):Prop:=∀p∈U,io p∧(used s v p).2.2=true
theorem oZ{s:ar}{v:al}{U:List Pick}(h:UsOk s v U):cq s v U=U:=List.filter_eq_self.2 fun p hp=>(h p hp).2
theorem pU{m:List Pick}(hm:m.Pairwise fun x y=>ip x y<0)(hl:m.length<=1000):dE m=some m:=by
 obtain⟨r,e,h1,h2, -⟩:=rp hl
 rw [e,lO h1 hm h2]
theorem nJ{s:ar}(hs:iZ s){v:al}(hv:kZ v){m:List Pick}(hm:m.Pairwise fun x y=>ip x y<0)(hu:UsOk s v m)(hl:m.length<=19)(h0:m≠ []):gy s v m=some (sol s v m,0)∧(sol s v m).ec=m:=by
 have hg:=gather_at hs hv (pU hm za) za (fun p hp=>(hu p hp).1)
 rw [oZ hu]at hg
 obtain⟨r,e, -,h1, -⟩:=solve_ok hs (mat_ok hs hv hl hu)
 obtain⟨h2,h3, -⟩:=h1 (by simpa [mat]using h0)
 obtain⟨r1,r2⟩:=r
 simp only at h2 h3
 subst h2
 have:sol s v m=r1:=by unfold sol;rw [e];rfl
 rw [solve_at hg,e,this]
 exact⟨rfl,h3⟩
theorem pZ{s:ar}(hs:iZ s){v:al}(hv:kZ v){U:List Pick}(hu:UsOk s v U):PhOk s.ae (U.map (phU s v)):=fun b hb=>by
 obtain⟨p,hp,rfl⟩:=List.mem_map.1 hb
 have:=(nM hs hv (hu p hp).1).2 (hu p hp).2
 exact⟨this.ph,this.reach⟩
theorem names_eq(x y:aH):jA ⟨⟩ x y=some (oA x.cb y.cb):=by unfold jA;rw [cmpE_eq];rfl
theorem ins_event{l:List aH}(hn:l.length<=1000):cO 0 (l.length:Int) l=some (cW cE l):=by
 refine Eq.trans (b:=insG (fun x y=>jA ⟨⟩ x y) (fun c=>decide (c<0)) 0 (l.length:Int) l) rfl (insG_at (S:=fun _=>True) (fun x y _ _=>⟨_,names_eq x y,rfl⟩) (fun _ _=>trivial) hn)
theorem sort_event{l:List aH}(hn:l.length<=12):dn l=some (cW cE l):=by
 unfold dn
 obtain⟨b,eb, -⟩:=bits_ok (n:=IntKind.wrap .u64 (l.length:Int)) (u64_range _)
 rw [eb,zd]
 have h1:(dW (bU l.length 0 l b) ())=some (cW cE l):=by
  refine gI ?_
  unfold bU
  rw [w64 za za,if_pos so,ins_event za]
  rfl
 have h2:cC 0 (l.length:Int) b l=some (cW cE l):=by
  unfold cC
  refine BT ⟨1,?_⟩ fun n s hs=>?_
  ·show((dW (bU l.length 0 l b) ()).bind fun o6=>some o6)=_
   rw [h1];rfl
  ·cases n with
   |zero=>cases hs
   |succ n=>
    have hs':((dW (bU l.length 0 l b) ()).bind fun o6=>some o6)=some s:=hs
    rw [h1]at hs'
    exact(Option.some.inj hs').symm
 rw [h2];rfl
theorem nodup_map{α β:Type}{f:α->β}{l:List α}(hl:l.Nodup)(h:∀x∈l,∀y∈l,f x=f y->x=y):(l.map f).Nodup:=by
 unfold List.Nodup at hl⊢
 rw [List.pairwise_map]
 refine List.pairwise_iff_forall_sublist.2 fun{a b}hab e=>?_
 exact List.pairwise_iff_forall_sublist.1 hl hab (h a (hab.subset sm) b (hab.subset sm) e)
theorem nodup_of_map{α β:Type}{f:α->β}{l:List α}(h:(l.map f).Nodup):l.Nodup:=by
 unfold List.Nodup at h⊢
 rw [List.pairwise_map]at h
 exact h.imp fun{a b}hn e=>hn (congrArg f e)
theorem inj_of_map{α β:Type}{f:α->β}:∀{l:List α},(l.map f).Nodup->∀x∈l,∀y∈l,f x=f y->x=y
 | [],_,x,hx,_,_,_=>by cases hx
 |a::l,h,x,hx,y,hy,e=>by
  rw [List.map_cons,List.nodup_cons]at h
  rcases List.mem_cons.1 hx with rfl|hx'
  ·rcases List.mem_cons.1 hy with rfl|hy'
   ·rfl
   ·exact(h.1 (by rw [e];exact List.mem_map_of_mem hy')).elim
  ·rcases List.mem_cons.1 hy with rfl|hy'
   ·exact(h.1 (by rw [<-e];exact List.mem_map_of_mem hx')).elim
   ·exact inj_of_map h.2 x hx' y hy' e
def uAt(U:List Pick)(i:Int):Pick:=U.getD i.toNat z0
theorem uAt_get{U:List Pick}{i:Int}(h0:0<=i)(h1:i<U.length):eV U i=some (uAt U i):=by
 rw [gK (i:=i.toNat) za za]
 unfold uAt
 rw [List.getD_eq_getElem?_getD,ze za];rfl
theorem uAt_mem{U:List Pick}{i:Int}(h0:0<=i)(h1:i<U.length):uAt U i∈U:=by
 unfold uAt
 rw [List.getD_eq_getElem?_getD,ze za]
 exact List.getElem_mem _
theorem uAt_lt{U:List Pick}(hU:U.Pairwise fun x y=>ip x y<0){i k:Int}(h0:0<=i)(h1:i<k)(h2:k<U.length):ip (uAt U i) (uAt U k)<0:=by
 unfold uAt
 rw [List.getD_eq_getElem?_getD,ze za,List.getD_eq_getElem?_getD,ze za]
 exact List.pairwise_iff_getElem.1 hU _ _ _ _ za
theorem uAt_ph{s:ar}{v:al}{U:List Pick}{i:Int}(h0:0<=i)(h1:i<U.length):pj (U.map (phU s v)) i=phU s v (uAt U i):=by
 unfold pj uAt
 rw [List.getD_eq_getElem?_getD,ze so,List.getD_eq_getElem?_getD,ze za]
 simp
def pk(U:List Pick)(o:List Int)(j:Nat):Pick:=uAt U (fK o j)
theorem ci_strict{l:List Int}(hl:l.Nodup):(cW ci l).Pairwise (· < ·):=(gQ sr (fun x y h=>zJ.1 h) hl).imp fun{x y}h=>by unfold sw at h;repeat' split at h<;>omega
theorem idx_sort{U:List Pick}(hU:U.Pairwise fun x y=>ip x y<0){l:List Int}(hd:l.Nodup)(hl:∀i∈l,0<=i∧i<U.length):(cW ci l).map (uAt U)=cW cP (l.map (uAt U)):=by
 have hl':∀i∈cW ci l,0<=i∧i<U.length:=fun i hi=>hl i ((cp _ l).mem_iff.1 hi)
 have h1:((cW ci l).map (uAt U)).Pairwise fun x y=>ip x y<0:=by
  rw [List.pairwise_map]
  refine(List.pairwise_iff_forall_sublist.2 fun{a b}hab=>?_)
  have hlt:=List.pairwise_iff_forall_sublist.1 (ci_strict hd) hab
  have ma:=hl' a (hab.subset sm);have mb:=hl' b (hab.subset sm)
  exact uAt_lt hU ma.1 hlt mb.2
 have h2:(l.map (uAt U)).Nodup:=by
  have:=gR cy h1
  refine((cp ci l).map (uAt U)).nodup_iff.1 this
 refine jD cy h1 (gQ cy (fun _ _=>je) h2) fun x=>?_
 rw [(cp cP _).mem_iff,((cp ci l).map (uAt U)).mem_iff]
theorem pk_sorted{s:ar}{v:al}{U:List Pick}(hU:U.Pairwise fun x y=>ip x y<0){o:List Int}(ho:nY (U.map (phU s v)) o):(List.range U.length).map (pk U o)=ko s v U:=by
 have e1:(List.range U.length).map (pk U o)=o.map (uAt U):=by
  refine List.ext_getElem (by simp [ho.len]) fun j h1 h2=>?_
  simp only [List.getElem_map,List.getElem_range]
  unfold pk fK
  rw [List.getD_eq_getElem?_getD,ze (by simpa using h2)];rfl
 rw [e1]
 have hm:∀i,i∈o↔0<=i∧i<U.length:=fun i=>by rw [ho.perm.mem_iff,ids_mem,List.length_map]
 have h1:(o.map (uAt U)).Pairwise fun x y=>cmpA s v x y<0:=by
  rw [List.pairwise_map]
  refine(List.pairwise_iff_forall_sublist.2 fun{a b}hab=>?_)
  have hlt:=List.pairwise_iff_forall_sublist.1 ho.lex hab
  have ma:=(hm a).1 (hab.subset sm);have mb:=(hm b).1 (hab.subset sm)
  unfold Lex at hlt
  dsimp only at hlt
  rw [uAt_ph ma.1 ma.2,uAt_ph mb.1 mb.2]at hlt
  unfold cmpA
  rcases hlt with h|⟨h,h'⟩
  ·rw [if_pos za];exact h
  ·rw [if_neg za];exact uAt_lt hU ma.1 h' mb.2
 refine jD (cmpA_tot s v) h1 (gQ (cmpA_tot s v) (fun _ _=>cmpA_zero) (gR cy hU)) fun x=>?_
 unfold ko
 rw [(cp _ U).mem_iff,List.mem_map]
 constructor
 ·rintro⟨i,hi,rfl⟩
  exact uAt_mem ((hm i).1 hi).1 ((hm i).1 hi).2
 ·intro hx
  obtain⟨i,hi,rfl⟩:=List.mem_iff_getElem.1 hx
  refine⟨(i:Int),(hm _).2 ⟨za,za⟩,?_⟩
  unfold uAt
  rw [Int.toNat_natCast,List.getD_eq_getElem?_getD,ze hi];rfl
theorem find_at{s:ar}(hs:iZ s){v:al}(hv:kZ v){l L:List Pick}(hL:dE l=some L)(hsL:L.Pairwise fun x y=>ip x y<0)(hl:L.length<=200)(hp:∀p∈L,io p)(hu:(cq s v L).length<=19):
  fe s v l=some (cW cE ((rX s v (ko s v (cq s v L))).1.map fun g=>evM s v (cW cP g)),cW cP (rX s v (ko s v (cq s v L))).2,0):=by
 have hU:(cq s v L).Pairwise fun x y=>ip x y<0:=hsL.filter _
 have hus:UsOk s v (cq s v L):=fun p h=>by
  have:=List.mem_filter.1 h
  exact⟨hp p this.1,this.2⟩
 unfold fe
 rw [eusable_at hs hv hL hl hp,zd,if_neg sm]
 generalize cq s v L=U at hu hU hus⊢
 have hFl:(U.map (phU s v)).length=U.length:=List.length_map ..
 obtain⟨o,ho,⟨⟨G,Z,e⟩,eA,r1,r2,r3⟩⟩:=associate_at hs (F:=U.map (phU s v)) za (pZ hs hv hus)
 simp only at r1 r2 r3
 subst r1
 rw [eA,zd,if_neg sm]
 rw [hFl]at r2 r3
 have hord:∀j∈List.range U.length,0<=fK o j∧fK o j<U.length:=fun j hj=>by
  have:=ho.range (j:=j) (by rw [hFl];exact List.mem_range.1 hj)
  rw [hFl]at this;exact this
 have hplP:∀j∈List.range U.length,phU s v (pk U o j)=plP (U.map (phU s v)) o j:=fun j hj=>by
  unfold plP pk
  rw [uAt_ph (hord j hj).1 (hord j hj).2]
 have hOnd:((List.range U.length).map (pk U o)).Nodup:=by
  rw [pk_sorted hU ho]
  exact(cp _ U).nodup_iff.2 (gR cy hU)
 have hinj:∀x∈List.range U.length,∀y∈List.range U.length,pk U o x=pk U o y->x=y:=inj_of_map hOnd
 have hmap := rj (least := s.ae.co.toNat) (win := pX (fun j => (plP (U.map (phU s v)) o j).aQ) s.ae.dC) (mem := pg s.ae (plP (U.map (phU s v)) o)) (win' := pX (fun p => (phU s v p).aQ) s.ae.dC) (mem' := pg s.ae (phU s v)) (f := pk U o) (List.range U.length) hinj (win_ok _ _ _) U.length (List.range U.length) (List.Sublist.refl _) (fun l' hl' => by
  have h1:∀x∈l',phU s v (pk U o x)=plP (U.map (phU s v)) o x:=fun x hx=>hplP x (hl'.subset hx)
  refine⟨winK_map l' fun x hx=>by rw [h1 x hx],memK_map fun x hx=>h1 x ((winK_sub _ _ l').subset hx)⟩)
 rw [pk_sorted hU ho]at hmap
 have hOl:(ko s v U).length=U.length:=fS _ _
 have hR:rX s v (ko s v U)=((rnd s.ae (U.map (phU s v)) o U.length (List.range U.length)).1.map (List.map (pk U o)),(rnd s.ae (U.map (phU s v)) o U.length (List.range U.length)).2.map (pk U o)):=by
  unfold rX
  rw [hOl];exact hmap
 have hperm:=l5 (win_ok s.ae (plP (U.map (phU s v)) o) s.ae.dC) (least:=s.ae.co.toNat) (by have:=hs.least.1;omega) U.length (List.range U.length) sm List.nodup_range
 have hlen:=rf (win:=pX (fun j=>(plP (U.map (phU s v)) o j).aQ) s.ae.dC) (mem:=pg s.ae (plP (U.map (phU s v)) o)) (least:=s.ae.co.toNat) U.length (List.range U.length)
 rw [hR]
 generalize hrd:rnd s.ae (U.map (phU s v)) o U.length (List.range U.length)=rd at r2 r3
 have hrd':rounds s.ae.co.toNat (pX (fun j=>(plP (U.map (phU s v)) o j).aQ) s.ae.dC) (pg s.ae (plP (U.map (phU s v)) o)) U.length (List.range U.length)=rd:=hrd
 rw [hrd']at hperm hlen
 obtain⟨A,B⟩:=rd
 simp only at r2 r3 hperm hlen⊢
 have hmem:∀g∈A,g.Nodup∧g.Sublist A.flatten:=fun g hg=>by
  have h1:g.Sublist A.flatten:=List.sublist_flatten_of_mem hg
  have h2:(A.flatten++B).Nodup:=hperm.nodup_iff.2 List.nodup_range
  exact⟨(List.nodup_append.1 h2).1.sublist h1,h1⟩
 have hin:∀g∈A,∀j∈g,j∈List.range U.length:=fun g hg j hj=>hperm.mem_iff.1 (List.mem_append.2 (.inl ((hmem g hg).2.subset hj)))
 have hinB:∀j∈B,j∈List.range U.length:=fun j hj=>hperm.mem_iff.1 (List.mem_append.2 (.inr hj))
 have hBn:B.Nodup:=by
  have h2:(A.flatten++B).Nodup:=hperm.nodup_iff.2 List.nodup_range
  exact(List.nodup_append.1 h2).2.1
 have ordInj:∀{g:List Nat},g.Nodup->(∀j∈g,j∈List.range U.length)->(g.map (fK o)).Nodup:=fun{g}hg hj=>by
  refine nodup_of_map (f:=uAt U) ?_
  rw [List.map_map]
  exact nodup_map hg fun x hx y hy h=>hinj x (hj x hx) y (hj y hy) h
 have hidx:∀g:List Nat,g.Nodup->(∀j∈g,j∈List.range U.length)->(cW ci (g.map (fK o))).map (uAt U)=cW cP (g.map (pk U o)):=fun g hg hj=>by
  rw [idx_sort hU (ordInj hg hj) (fun i hi=>by obtain⟨j,hj',rfl⟩:=List.mem_map.1 hi;exact hord j (hj j hj')),List.map_map]
  rfl
 have hGm:∀g∈G,∃a∈A,g.cz=cW ci (a.map (fK o)):=fun g hg=>by
  have:g.cz∈G.map (·.cz):=List.mem_map_of_mem hg
  rw [r2]at this
  obtain⟨a,ha,e⟩:=List.mem_map.1 this
  exact⟨a,ha,e.symm⟩
 have hGl:G.length=A.length:=by
  have:=congrArg List.length r2
  simpa using this
 have hfl:A.flatten.length+B.length=U.length:=by
  have:=hperm.length_eq
  simpa using this
 have hAl:2*A.length<=A.flatten.length:=by
  have:∀X:List (List Nat),(∀g∈X,2<=g.length)->2*X.length<=X.flatten.length:=by
   intro X
   induction X with
   |nil=>intro _;simp
   |cons x X ih=>
    intro h
    have:=ih fun g hg=>h g (List.mem_cons_of_mem _ hg)
    have:=h x sm
    rw [List.flatten_cons,List.length_append,List.length_cons];omega
  exact this A fun g hg=>by have:=hlen g hg;have:=hs.least.1;omega
 have hgl:∀a∈A,a.length<=19:=fun a ha=>by have:=(hmem a ha).2.length_le;omega
 have hev:∀g∈G,gy s v (g.cz.map (uAt U))=some (sol s v (g.cz.map (uAt U)),0)∧(sol s v (g.cz.map (uAt U))).ec=g.cz.map (uAt U)∧(g.cz.map (uAt U)).length<=19∧(∀i∈g.cz,0<=i∧i<U.length):=fun g hg=>by
  obtain⟨a,ha,e⟩:=hGm g hg
  have e2:g.cz.map (uAt U)=cW cP (a.map (pk U o)):=by rw [e,hidx a (hmem a ha).1 (hin a ha)]
  have hnd:(a.map (pk U o)).Nodup:=nodup_map (hmem a ha).1 fun x hx y hy h=>hinj x (hin a ha x hx) y (hin a ha y hy) h
  have hl1:(cW cP (a.map (pk U o))).length=a.length:=by rw [fS,List.length_map]
  have h12:=hgl a ha
  have hne:cW cP (a.map (pk U o))≠ []:=fun h=>by
   rw [h]at hl1
   have:=hlen a ha;have:=hs.least.1
   simp at hl1;omega
  obtain ⟨q1, q2⟩ := nJ hs hv (m := cW cP (a.map (pk U o))) (gQ cy (fun _ _ => je) hnd) (fun p hp' => by
   have:=(cp cP _).mem_iff.1 hp'
   obtain⟨j,hj,rfl⟩:=List.mem_map.1 this
   have hj':=hord j (hin a ha j hj)
   exact hus _ (uAt_mem hj'.1 hj'.2)) za hne
  rw [e2]
  refine⟨q1,q2,za,fun i hi=>?_⟩
  rw [e]at hi
  obtain⟨j,hj,rfl⟩:=List.mem_map.1 ((cp ci _).mem_iff.1 hi)
  exact hord j (hin a ha j hj)
 have h27:dW (kD (G,Z,0) (U,U.map (phU s v),0) s v) ((0:Int),([]:List aH))=some (.inl (G.map fun g=>evM s v (g.cz.map (uAt U)))):=by
  refine pE (l:=G) (f:=fun g=>evM s v (g.cz.map (uAt U))) (g:=fun x=>(Sum.inl x:List aH⊕(List aH×List Pick×Int))) (fun i hi acc ha=>?_) (fun acc ha=>?_)
  ·obtain⟨q1,q2,q3,q4⟩:=hev _ (List.getElem_mem hi)
   unfold kD
   dsimp only
   rw [if_pos so,gK (i:=i) rfl hi,zd]
   have h21:dW (kC G[i] (U,U.map (phU s v),0) (i:Int) acc) ((0:Int),([]:List ai))=some ((i:Int),acc,G[i].cz.map (uAt U)):=by
    refine pE (l:=G[i].cz) (f:=uAt U) (g:=fun x=>((i:Int),acc,x)) (fun k hk acc' ha'=>?_) (fun acc' ha'=>?_)
    ·have hk':=q4 _ (List.getElem_mem hk)
     rw [List.length_map]at q3
     unfold kC
     dsimp only
     rw [if_pos so,gK (i:=k) rfl hk,zd,uAt_get hk'.1 hk'.2,zd,d5 so,zd,w64 za za]
     rfl
    ·unfold kC
     dsimp only
     rw [if_neg sm]
   rw [h21,zd]
   dsimp only
   rw [q1,zd,if_neg sm]
   dsimp only
   rw [q2,name_at za,zd,d5 so,zd,w64 za za]
   rfl
  ·unfold kD
   dsimp only
   rw [if_neg sm]
 have h40:dW (kE (G,Z,0) (U,U.map (phU s v),0)) ((0:Int),([]:List ai))=some (Z.map (uAt U)):=by
  have hZ:∀i∈Z,0<=i∧i<U.length:=fun i hi=>by
   rw [r3]at hi
   obtain⟨j,hj,rfl⟩:=List.mem_map.1 ((cp ci _).mem_iff.1 hi)
   exact hord j (hinB j hj)
  have hZl:Z.length<=19:=by rw [r3,fS,List.length_map];omega
  refine pE (l:=Z) (f:=uAt U) (g:=fun x=>x) (fun k hk acc ha=>?_) (fun acc ha=>?_)
  ·have hk':=hZ _ (List.getElem_mem hk)
   unfold kE
   dsimp only
   rw [if_pos so,gK (i:=k) rfl hk,zd,uAt_get hk'.1 hk'.2,zd,d5 so,zd,w64 za za]
   rfl
  ·unfold kE
   dsimp only
   rw [if_neg sm]
 rw [h27,zd]
 dsimp only
 rw [sort_event (by rw [List.length_map];omega),zd,h40,zd]
 have e1:G.map (fun g=>evM s v (g.cz.map (uAt U)))=(A.map (List.map (pk U o))).map fun g=>evM s v (cW cP g):=by
  have:G.map (fun g=>evM s v (g.cz.map (uAt U)))=(G.map (·.cz)).map fun is=>evM s v (is.map (uAt U)):=by rw [List.map_map];rfl
  rw [this,r2,List.map_map,List.map_map]
  refine List.map_congr_left fun g hg=>?_
  simp only [Function.comp]
  rw [hidx g (hmem g hg).1 (hin g hg)]
 have e2:Z.map (uAt U)=cW cP (B.map (pk U o)):=by rw [r3,hidx B hBn hinB]
 rw [e1,e2]
end Go.Dw.Em
set_option maxRecDepth 100000
set_option maxHeartbeats 4000000
namespace Go.Dw.Em
open Go.Dw Go.Proofs
open Sd (iC fd eD)
theorem used_form{a:ar}(ha:iZ a){v:al}(hv:kZ v){p:Pick}(hp:io p)(hu:(used a v p).2.2=true):∃e,px v p.aw p.bn=some e∧phU a v p=⟨e.aP,p.aQ,p.bw,1⟩:=by
 have h1:=(nM ha hv hp).1
 unfold da at h1
 rw [o0 hp,zd,if_neg sm,At_eq hv.lens (lm hv),zd]at h1
 cases h:px v p.aw p.bn with
 |none=>
  rw [h]at h1
  dsimp only at h1
  rw [if_pos sm]at h1
  have:=congrArg (fun r=>r.2.2) (Option.some.inj h1)
  rw [hu]at this
  cases this
 |some e=>
  rw [h]at h1
  dsimp only at h1
  rw [if_neg sm]at h1
  have he:=ry hv h
  obtain⟨z,ez, -⟩:=sc ha.tab ha.box (a:=⟨e.aP,p.aQ,p.bw,1⟩) (rO he hp)
  rw [ez,zd]at h1
  split at h1
  ·have:=congrArg (fun r=>r.2.2) (Option.some.inj h1)
   rw [hu]at this
   cases this
  ·refine⟨e,rfl,?_⟩
   unfold phU
   rw [<-Option.some.inj h1]
theorem costS_zero{cap:Int}(hc:1<=cap){t:Int}{f:Ph->aK}:∀(ps:List Ph),(∀a∈ps,a.bJ=1)->b7 cap ps (ps.map f) t<=0->∀a∈ps,res (f a) t=0
 | [],_,_,a,ha=>by cases ha
 |b::ps,hw,h,a,ha=>by
  have h1:b7 cap (b::ps) ((b::ps).map f) t=iz cap b.bJ (f b) t+b7 cap ps (ps.map f) t:=rfl
  have h2:=oC (cap:=cap) za (t:=t) ps (ps.map f) (fun x hx=>by have:=hw x (List.mem_cons_of_mem _ hx);omega)
  have h3:iz cap b.bJ (f b) t=min cap (res (f b) t):=by unfold iz;rw [hw b sm];omega
  have h4:0<=res (f b) t:=by unfold res;omega
  have h5:b7 cap ps (ps.map f) t<=0:=by omega
  rcases List.mem_cons.1 ha with rfl|ha
  ·omega
  ·exact costS_zero hc ps (fun x hx=>hw x (List.mem_cons_of_mem _ hx)) h5 a ha
theorem zero_costS{cap:Int}(hc:1<=cap){t:Int}{f:Ph->aK}:∀(ps:List Ph),(∀a∈ps,a.bJ=1)->(∀a∈ps,res (f a) t=0)->b7 cap ps (ps.map f) t=0
 | [],_,_=>rfl
 |b::ps,hw,h=>by
  have h1:b7 cap (b::ps) ((b::ps).map f) t=iz cap b.bJ (f b) t+b7 cap ps (ps.map f) t:=rfl
  have h3:iz cap b.bJ (f b) t=min cap (res (f b) t):=by unfold iz;rw [hw b sm];omega
  have h4:=h b sm
  have:=zero_costS hc ps (fun x hx=>hw x (List.mem_cons_of_mem _ hx)) (fun x hx=>h x (List.mem_cons_of_mem _ hx))
  omega
theorem mis_zero{q:ah}(hq:PV q){p:aa}(h:In q.aM p){t:Int}(hz:∀b∈q.a7,res (zn q ⟨p,p⟩ b) t=0):mis q p=0:=by
 obtain⟨t', -,hB⟩:=pF hq h
 have hw:∀a∈q.a7,a.bJ=1:=fun a ha=>(hq.ph a ha).1.weight
 have h0:=zero_costS (f:=zn q ⟨p,p⟩) hq.cap.1 q.a7 hw hz
 have hl:=hq.len
 obtain⟨e,he,hle⟩:=least_end (cap:=q.cG) (by have:=hq.cap;omega) (ps:=q.a7) (zs:=q.a7.map (zn q ⟨p,p⟩)) (fun h=>by rw [List.map_eq_nil_iff]at h;rw [h]at hl;simp at hl) (fun a ha=>by have:=hw a ha;omega) (fun z hz=>by obtain⟨b,hb,rfl⟩:=List.mem_map.1 hz;exact(sb hq h hb).2.2.1) t
 have:=hB.least e he
 have:=(mis_range hq h).1
 simp only at*
 omega
theorem fit_all{s:ar}(hs:iZ s){ph:List Ph}(hp:PhOk s.ae ph)(hl:1<=ph.length∧ph.length<=64)(h0:(loc s.ae ph).bq<=0):∀b∈ph,fits s.ae ph b=true:=by
 have hq:=qc hs hp hl
 obtain⟨-,hL, -⟩:=loc_at hs hp hl
 obtain⟨t,e1,hB⟩:=pF hq hL.inn
 rw [hL.val]at e1
 simp only [Option.some.injEq,Prod.mk.injEq]at e1
 obtain⟨e1,e2, -⟩:=e1
 have hc:=hB.cost
 simp only at hc
 rw [<-e1, <-e2]at hc
 have hw:∀a∈ph,a.bJ=1:=fun a ha=>(hp a ha).1.weight
 have:=costS_zero (f:=zn (na s.ae ph) ⟨(loc s.ae ph).aX,(loc s.ae ph).aX⟩) (t:=(loc s.ae ph).bn) hs.cap.1 ph hw (by rw [show b7 s.ae.cG ph (ph.map _) _=(loc s.ae ph).bq from hc.symm];exact h0)
 intro b hb
 unfold fits
 rw [this b hb]
 simpa using hs.limit.1
theorem sortI_self{α:Type}{c:α->α->Int}(hc:Tot c)(h0:∀x y,c x y=0->x=y){l:List α}(h:l.Pairwise fun x y=>c x y<0):cW (fun x y=>decide (c x y<0)) l=l:=
 jD hc (gQ hc h0 (gR hc h)) h fun _=>(cp _ l).mem_iff
theorem rnd_one{s:ar}(hs:iZ s){v:al}{O:List Pick}(h1:s.ae.co.toNat<=O.length)(h16:O.length<=16)(hw:∀p∈O,∀i∈O,(phU s v p).aQ-(phU s v i).aQ<=s.ae.dC)
  (hf:∀b∈O.map (phU s v),fits s.ae (O.map (phU s v)) b=true):rX s v O=([O],[]):=by
 have hle:=hs.least.1
 have hm:pg s.ae (phU s v) O=O:=List.filter_eq_self.2 fun p hp=>hf _ (List.mem_map_of_mem hp)
 have hr0:∀n,rounds s.ae.co.toNat (pX (fun p=>(phU s v p).aQ) s.ae.dC) (pg s.ae (phU s v)) n ([]:List Pick)=([],[]):=fun n=>by cases n<;>rfl
 unfold rX
 match O,h1,h16,hw,hm with
 | [],h1,_,_,_=>simp at h1;omega
 |i::r,h1,h16,hw,hm=>
  have hwin:pX (fun p=>(phU s v p).aQ) s.ae.dC (i::r)=i::r:=by
   show((i::r).takeWhile fun j=>decide ((phU s v j).aQ-(phU s v i).aQ<=s.ae.dC)).take 16=_
   have:(i::r).takeWhile (fun j=>decide ((phU s v j).aQ-(phU s v i).aQ<=s.ae.dC))=i::r:=by
    have key:∀(p:Pick->Bool)(l:List Pick),(∀x∈l,p x=true)->l.takeWhile p=l:=by
     intro p l
     induction l with
     |nil=>intro _;rfl
     |cons x l ih=>
      intro h
      rw [List.takeWhile_cons_of_pos (h x sm),ih fun y hy=>h y (List.mem_cons_of_mem _ hy)]
    exact key _ _ fun x hx=>by simpa using hw x hx i sm
   rw [this,List.take_of_length_le h16]
  show rounds _ _ _ (r.length+1) (i::r)=_
  rw [e8,hwin,hm,if_pos ⟨h1,h1⟩]
  have:(i::r).filter (fun x=>decide (x∉i::r))=[]:=by
   rw [List.filter_eq_nil_iff]
   intro x hx
   simp only [decide_eq_true_eq]
   exact fun h=>h hx
  rw [this,hr0]
theorem index_one(e:aH)(p:Pick):iD [e] p=some (if e.cb=p then 0 else-1):=by
 unfold iD eU
 have hl:lc e p=some (decide (e.cb=p)):=congrArg some (eqs e.cb p)
 by_cases h:e.cb=p
 ·rw [gI (o:= .inr 0)]
  ·rw [if_pos h];rfl
  ·unfold dg
   rw [if_pos sm,show eV [e] (0:Int)=some e from rfl,zd,hl,zd,if_pos (by simpa using h)]
 ·rw [jr (s':=1),gI (o:= .inl ())]
  ·rw [if_neg h];rfl
  ·unfold dg
   rw [if_neg sm]
  ·unfold dg
   rw [if_pos sm,show eV [e] (0:Int)=some e from rfl,zd,hl,zd,if_neg (by simpa using h)]
   rfl
end Go.Dw.Em
set_option maxRecDepth 100000
set_option maxHeartbeats 4000000
namespace Go.Dw.Em
open Go.Dw Go.Proofs
open Sd (iC fd eD)
structure Gr(s:ar)(v:al)(U g:List Pick):Prop where
 least:s.ae.co.toNat<=g.length
 len:g.length<=U.length
 nd:g.Nodup
 sub:∀p∈g,p∈U
 picks:(evM s v (cW cP g)).aF.ec=cW cP g
 asc:(cW cP g).Pairwise fun x y=>ip x y<0
end Go.Dw.Em
set_option maxRecDepth 100000
set_option maxHeartbeats 4000000
namespace Go.Dw.Em
open Go.Dw
namespace Sd
theorem ref_cmp(a b:List UInt8):fW a b=some (tU a b):=by
 unfold fW tU
 cases h:Op.bytesLess a b with
 |true=>simp
 |false=>by_cases e:a=b<;>simp [e]
theorem ref_Compare_eq(a b:Src):lK a b=some (iC a b):=by
 unfold lK iC
 simp only [ref_cmp,zd,bne_iff_ne,ne_eq]
 by_cases h1:tU a.ba b.ba=0<;>by_cases h2:tU a.aN b.aN=0<;>by_cases h3:tU a.av b.av=0<;>by_cases h4:tU a.bc b.bc=0<;>simp [h1,h2,h3,h4]
end Sd
open Sd (iC fd eD)
end Go.Dw.Em
set_option maxRecDepth 100000
set_option maxHeartbeats 4000000
namespace Go.Dw.Em
namespace Iv
open Go.Dw
abbrev Src:=au
open Sq
open Sd (iC fd eD cmpS_range)
theorem loop_upto{ω:Type}{body:Int->Option (fR Int ω)}(n:Nat){q:Nat->Bool}{u:ω}{r:Nat->ω}(h1:∀i,i<n->body i=if q i=true then some (.next ((i+1:Nat):Int))else some (.stop (r i)))
  (h2:body (n:Nat)=some (.stop u)):(dW body (0:Int)=some u∧∀i,i<n->q i=true)∨∃i,i<n∧dW body (0:Int)=some (r i)∧q i=false∧∀j,j<i->q j=true:=by
 have:∀k i,i+k=n->(∀j,j<i->q j=true)->(dW body (i:Int)=some u∧∀i,i<n->q i=true)∨∃m,m<n∧dW body (i:Int)=some (r m)∧q m=false∧∀j,j<m->q j=true:=by
  intro k
  induction k with
  |zero=>
   intro i hi hj
   obtain rfl:i=n:=by omega
   exact .inl ⟨gI h2,hj⟩
  |succ k ih=>
   intro i hi hj
   by_cases hp:q i=true
   ·rw [jr (by rw [h1 i za,if_pos hp])]
    exact ih (i+1) za fun j hj'=>by
     by_cases e:j=i
     ·subst e;exact hp
     ·exact hj j za
   ·exact .inr ⟨i,za,gI (by rw [h1 i za,if_neg hp]),by simpa using hp,hj⟩
 exact this n 0 za fun j hj=>by omega
theorem rH{ω:Type}{body:Int->Option (fR Int ω)}(n:Nat){q:Nat->Bool}{u r:ω}(h1:∀i,i<n->body i=if q i=true then some (.next ((i+1:Nat):Int))else some (.stop r))
  (h2:body (n:Nat)=some (.stop u)):dW body (0:Int)=some (if(List.range n).all q=true then u else r):=by
 rcases loop_upto n h1 h2 with⟨h,h'⟩|⟨i,hi,h,h', -⟩
 ·rw [h,if_pos (List.all_eq_true.2 fun i hi=>h' i (List.mem_range.1 hi))]
 ·rw [h,if_neg (fun ha=>by have:=List.all_eq_true.1 ha i (List.mem_range.2 hi);rw [h']at this;cases this)]
theorem jL(b c:Bool):(if b=true then some c else some false)=some (b&&c):=by cases b<;>rfl
theorem lT(b:Bool){α:Type}(x y:α):(if(!b)=true then x else y)=if b=true then y else x:=by cases b<;>rfl
theorem ref_code_l16{s:List UInt8}(hs:s.length<=9223372036854775807):dW (kN s) (0:Int)=some (if s.all oL=true then .inl ()else .inr false):=by
 refine loop_list s (fun i hi=>?_) ?_
 ·unfold kN
  rw [if_pos so,byteO_at rfl hi,w64 za za]
  simp only [zd,dec1,dec2,dec3,dec4]
  unfold oL
  cases decide (65<=s[i].toNat)<;>cases decide (s[i].toNat<=90)<;>cases decide (48<=s[i].toNat)<;>cases decide (s[i].toNat<=57)<;>simp
 ·unfold kN
  rw [if_neg sm]
theorem nG{s:List UInt8}(hs:s.length<=9223372036854775807)(lo hi:Int):iP s lo hi=some (jo s lo hi):=by
 unfold iP jo
 rw [ref_code_l16 hs]
 cases s.all oL with
 |true=>cases decide ((s.length:Int)>=lo)<;>simp
 |false=>rfl
abbrev b9:=Sq.SidLen
theorem loc_eq(s:List UInt8):(jo s 0 2&&decide (s.length≠1))=(decide (s=[])||jo s 2 2):=by
 unfold jo
 match s with
 | []=>simp
 | [a]=>simp
 | [a,b]=>simp
 |a::b::c::r=>
  have h1:decide (((a::b::c::r).length:Int)<=2)=false:=by simp;omega
  rw [h1];simp
theorem rV{x:Src}(hx:b9 x):kj x=some (gz x):=by
 obtain⟨h1,h2,h3,h4⟩:=hx
 unfold kj gz
 simp only [nG h1,nG h2,nG h3,nG h4,zd]
 rw [<-Bool.and_assoc (jo x.av 0 2),loc_eq]
 by_cases e:x.av=[]
 ·cases jo x.ba 1 2<;>cases jo x.aN 1 5<;>simp [e]
 ·cases jo x.ba 1 2<;>cases jo x.aN 1 5<;>cases jo x.av 2 2<;>simp [e]
abbrev Stage:=aD
abbrev Resp:=aL
abbrev Epoch:=ap
abbrev Chan:=aq
def inB(a lo hi:Int):Bool:=decide (a>=lo)&&decide (a<=hi)
theorem rin_eq(a b c:Int):nD a b c=some (inB a b c):=by unfold nD inB;rw [jL]
theorem pin_eq(a b c:Int):bA a b c=some (inB a b c):=rin_eq a b c
theorem iin_eq(a b c:Int):de a b c=some (inB a b c):=rin_eq a b c
theorem In_eq(a b c:Int):cV a b c=some (inB a b c):=rin_eq a b c
theorem gcd_ok(a b:Int):∃g,lX a b=some g:=by
 obtain ⟨o, h, -⟩ := uI (body := nC) (fun _ => True) (fun s => s.2.natAbs) (fun _ => True) (by
  rintro⟨x,y⟩-
  unfold nC
  by_cases hy:y=0
  ·exact .inr ⟨x,by simp [hy],trivial⟩
  ·refine .inl ⟨(y,x.tmod y),?_,trivial,?_⟩
   ·have:(y != 0)=true:=by simpa using hy
    simp only [this,if_true]
    unfold vN
    rw [if_neg hy];rfl
   ·simp only [Int.natAbs_tmod]
    exact Nat.mod_lt _ za) (a,b) trivial
 exact⟨o,by unfold lX;rw [h];rfl⟩
noncomputable def vR (r:bi):Bool:=inB r.bd 1 4096&&(inB r.aY 1 4096&&((lX r.bd r.aY).getD 0==1))
theorem vR_eq(r:bi):iO r=some (vR r):=by
 obtain⟨g,hg⟩:=gcd_ok r.bd r.aY
 unfold iO vR
 simp only [rin_eq,zd,hg,jL,Option.getD_some]
theorem ref_vR_eq(r:bi):pN r=some (vR r):=vR_eq r
def pW(l:List Int):Bool:=l.all fun x=>inB x (-1048576) 1048576
theorem terms_eq{l:List Int}(hl:l.length<=4000000000):ca l=some (pW l):=by
 unfold ca cj cL
 have := loop_upto (body := bX l) l.length (q := fun i => inB (l.getD i 0) (-1048576) 1048576) (u := .inl ()) (r := fun i => .inr (i : Int)) (fun i hi => by
  unfold bX f8
  rw [if_pos so,gK rfl hi,w64 za za]
  simp only [zd,pin_eq,List.getD_eq_getElem?_getD,ze hi,Option.getD_some,lT]
  rfl) (by
  unfold bX
  rw [if_neg sm])
 rcases this with⟨h,h'⟩|⟨i,hi,h,h', -⟩
 ·rw [h]
  have:pW l=true:=List.all_eq_true.2 fun x hx=>by
   obtain⟨i,hi,rfl⟩:=List.getElem_of_mem hx
   have:=h' i hi
   simpa [List.getD_eq_getElem?_getD,ze hi]using this
  rw [this];rfl
 ·rw [h]
  have : pW l = false := List.all_eq_false.2 ⟨l[i], List.getElem_mem hi, by
   simpa [List.getD_eq_getElem?_getD,ze hi]using h'⟩
  rw [this]
  simp only [zd]
  rw [show decide ((i:Int)>=0)=true by simp];rfl
theorem oU{l:List Int}(hl:l.length<=4000000000):gA l=some (pW l):=by
 unfold gA
 rw [loop_list (body := kO l) l (p := fun x => inB x (-1048576) 1048576) (u := .inl ()) (r := .inr false) (fun i hi => by
  unfold kO
  rw [if_pos so,gK rfl hi,w64 za za]
  simp only [zd,In_eq,lT]
  rfl) (by
  unfold kO
  rw [if_neg sm])]
 unfold pW
 cases l.all fun x=>inB x (-1048576) 1048576<;>rfl
theorem sum_ok{l:List Int}(hl:l.length<=4000000000):∃g,cN l=some g:=by
 obtain ⟨o, h, -⟩ := uI (body := hC l) (fun s => ∃ i : Nat, s.2 = (i : Int) ∧ i ≤ l.length) (fun s => ((l.length : Int) - s.2).toNat) (fun _ => True) (by
  rintro⟨x,y⟩ ⟨i,hy,hi⟩
  simp only at hy
  subst hy
  unfold hC
  by_cases hlt:i<l.length
  ·refine .inl ⟨(IntKind.wrap .i64 (x+l[i]),((i+1:Nat):Int)),?_,⟨i+1,rfl,za⟩,zc⟩
   simp only
   rw [if_pos so,gK rfl hlt,w64 (n:=(i:Int)+1) za za];rfl
  ·exact .inr ⟨x,by simp only;rw [if_neg so],trivial⟩) (0,0) ⟨0,rfl,Nat.zero_le _⟩
 exact⟨o,by unfold cN;rw [h];rfl⟩
noncomputable def sumB (l:List Int):Int:=(cN l).getD 0
theorem sum_eq{l:List Int}(hl:l.length<=4000000000):cN l=some (sumB l):=by
 obtain⟨g,hg⟩:=sum_ok hl
 unfold sumB;rw [hg];rfl
theorem ref_sum_eq{l:List Int}(hl:l.length<=4000000000):lY l=some (sumB l):=sum_eq hl
noncomputable def vS (s:Stage):Bool:=
 if s.b8=0 then decide (s.bN=[])&&(s.bt==0)&&(s.bR==0)&&inB s.bd.a0 1 1048576&&inB s.aY.a0 1 1048576&&(s.bd.a1==0)&&(s.bd.a2==0)&&(s.aY.a1==0)&&(s.aY.a2==0)
 else if s.b8=1 then decide (s.bN=[])&&(s.bt==0)&&(s.bR==0)&&pW [s.bd.a0,s.bd.a1,s.bd.a2]&&pW [s.aY.a0,s.aY.a1,s.aY.a2]&&(s.aY.a0 != 0)
 else if s.b8=2 then(s.bd.a0==0)&&(s.bd.a1==0)&&(s.bd.a2==0)&&(s.aY.a0==0)&&(s.aY.a1==0)&&(s.aY.a2==0)&&inB s.bN.length 1 128&&pW s.bN&&(sumB s.bN != 0)&&inB s.bt 1 64&&inB s.bR 0 40
 else false
theorem len0{α:Type} [DecidableEq α] (l:List α):((l.length:Int)==0)=decide (l=[]):=by
 cases l with
 |nil=>rfl
 |cons a l=>simp;omega
theorem vS_eq{s:Stage}(hl:s.bN.length<=4000000000):cf s=some (vS s):=by
 unfold cf vS
 simp only [pin_eq,terms_eq hl,terms_eq (l:=[s.bd.a0,s.bd.a1,s.bd.a2]) sm,terms_eq (l:=[s.aY.a0,s.aY.a1,s.aY.a2]) sm,sum_eq hl,zd,jL,len0]
 by_cases h0:s.b8=0
 ·rw [if_pos h0]
  simp only [h0,beq_self_eq_true,if_true,jL]
  cases decide (s.bN=[])<;>cases s.bt==0<;>simp<;>cases s.bR==0<;>simp [Bool.and_assoc,Bool.and_comm,Bool.and_left_comm]
 rw [if_neg h0]
 have e0:(s.b8==0)=false:=by simpa using h0
 by_cases h1:s.b8=1
 ·rw [if_pos h1]
  simp only [h1,beq_self_eq_true,if_true,jL]
  cases decide (s.bN=[])<;>cases s.bt==0<;>simp [Bool.and_assoc]
 rw [if_neg h1]
 have e1:(s.b8==1)=false:=by simpa using h1
 by_cases h2:s.b8=2
 ·rw [if_pos h2]
  simp only [h2,beq_self_eq_true,if_true,jL]
  cases decide (s.bN=[])<;>cases s.bt==0<;>simp [Bool.and_assoc]
 rw [if_neg h2]
 have e2:(s.b8==2)=false:=by simpa using h2
 simp only [e0,e1,e2]
 cases decide (s.bN=[])<;>cases s.bt==0<;>simp
theorem ref_vS_eq{s:Stage}(hl:s.bN.length<=4000000000):jk s=some (vS s):=by
 unfold jk vS
 simp only [In_eq,oU hl,oU (l:=[s.bd.a0,s.bd.a1,s.bd.a2]) sm,oU (l:=[s.aY.a0,s.aY.a1,s.aY.a2]) sm,ref_sum_eq hl,zd,jL,len0]
 by_cases h0:s.b8=0
 ·rw [if_pos h0]
  simp only [h0,beq_self_eq_true,if_true,jL]
  cases decide (s.bN=[])<;>cases s.bt==0<;>simp [Bool.and_assoc]
 rw [if_neg h0]
 have e0:(s.b8==0)=false:=by simpa using h0
 by_cases h1:s.b8=1
 ·rw [if_pos h1]
  simp only [h1,beq_self_eq_true,if_true,jL]
  cases decide (s.bN=[])<;>cases s.bt==0<;>simp [Bool.and_assoc]
 rw [if_neg h1]
 have e1:(s.b8==1)=false:=by simpa using h1
 by_cases h2:s.b8=2
 ·rw [if_pos h2]
  simp only [h2,beq_self_eq_true,if_true,jL]
  cases decide (s.bN=[])<;>cases s.bt==0<;>simp [Bool.and_assoc]
 rw [if_neg h2]
 have e2:(s.b8==2)=false:=by simpa using h2
 simp only [e0,e1,e2]
 cases decide (s.bN=[])<;>cases s.bt==0<;>simp
def jZ:Int->List Stage->Bool
 |_,[]=>true
 |p,s::r=>if s.b8=2 then decide (p*s.bt<=64)&&jZ (p*s.bt) r else jZ p r
theorem prodOk_cons(p:Int)(s:Stage)(r:List Stage):jZ p (s::r)=if s.b8=2 then decide (p*s.bt<=64)&&jZ (p*s.bt) r else jZ p r:=rfl
noncomputable def vP (r:Resp):Bool:=decide (r.aV.length<=8)&&(r.aV.all vS&&jZ 1 r.aV)
def ROk(r:Resp):Prop:=r.aV.length<=4000000000∧∀s∈r.aV,s.bN.length<=4000000000
theorem vS_factor{s:Stage}(h:vS s=true)(hk:s.b8=2):1<=s.bt∧s.bt<=64:=by
 unfold vS at h
 rw [if_neg za,if_neg za,if_pos hk]at h
 simp only [Bool.and_eq_true,inB,decide_eq_true_eq]at h
 omega
theorem allv_eq{r:Resp}(hr:ROk r):bH r.aV=some (!(r.aV.all vS)):=by
 obtain⟨hl,ht⟩:=hr
 generalize r.aV=l at*
 unfold bH cr
 have := loop_upto (body := bI l) l.length (q := fun i => match l[i]? with | some s => vS s | none => true) (u := .inl ()) (r := fun i => .inr (i : Int)) (fun i hi => by
  unfold bI dQ
  rw [if_pos so,gK rfl hi,w64 za za]
  simp only [zd,vS_eq (ht _ (List.getElem_mem hi)),ze hi,lT]
  rfl) (by
  unfold bI
  rw [if_neg sm])
 rcases this with⟨h,h'⟩|⟨i,hi,h,h', -⟩
 ·rw [h]
  have:l.all vS=true:=List.all_eq_true.2 fun x hx=>by
   obtain⟨i,hi,rfl⟩:=List.getElem_of_mem hx
   have:=h' i hi
   simpa [ze hi]using this
  rw [this];rfl
 ·rw [h]
  have : l.all vS = false := List.all_eq_false.2 ⟨l[i], List.getElem_mem hi, by
   simpa [ze hi]using h'⟩
  rw [this]
  simp only [zd]
  rw [show decide ((i:Int)>=0)=true by simp];rfl
theorem factor_eq{r:Resp}(hr:ROk r)(hv:r.aV.all vS=true):∃p,dS r.aV=some p∧(decide (p>0)=jZ 1 r.aV):=by
 obtain⟨hl,ht⟩:=hr
 generalize r.aV=l at*
 obtain⟨o,h,hq⟩:=uI (body:=dU l) (fun s=>∃i:Nat,s.2=(i:Int)∧i<=l.length∧1<=s.1∧s.1<=64∧jZ 1 l=jZ s.1 (l.drop i)) (fun s=>((l.length:Int)-s.2).toNat)
  (fun o => match o with | .inl y => 0 < y ∧ jZ 1 l = true | .inr y => y = 0 ∧ jZ 1 l = false) (by
  rintro⟨x,y⟩ ⟨i,hy,hi,h1,h2,h3⟩
  simp only at hy h1 h2 h3
  subst hy
  unfold dU
  simp only
  by_cases hlt:i<l.length
  ·rw [if_pos so,gK rfl hlt,zd,w64 (n:=(i:Int)+1) za za]
   rw [List.drop_eq_getElem_cons hlt,prodOk_cons]at h3
   have hvi:vS l[i]=true:=List.all_eq_true.1 hv _ (List.getElem_mem hlt)
   by_cases hk:l[i].b8=2
   ·rw [if_neg (by simpa using hk)]
    rw [if_pos hk]at h3
    obtain⟨f1,f2⟩:=vS_factor hvi hk
    have m1:1<=x*l[i].bt:=by have:=Int.mul_le_mul h1 f1 za za;omega
    have m2:x*l[i].bt<=64*64:=Int.mul_le_mul h2 f2 za za
    rw [w64 (n:=x*l[i].bt) za za]
    by_cases hp:x*l[i].bt<=64
    ·rw [if_neg so]
     refine .inl ⟨_,rfl,⟨i+1,rfl,za,m1,hp,?_⟩,zc⟩
     rw [h3];simp [hp]
    ·rw [if_pos so]
     refine .inr ⟨_,rfl,rfl,?_⟩
     rw [h3];simp [hp]
   ·rw [if_pos (by simpa using hk)]
    rw [if_neg hk]at h3
    exact .inl ⟨_,rfl,⟨i+1,rfl,za,h1,h2,h3⟩,zc⟩
  ·rw [if_neg so]
   refine .inr ⟨_,rfl,za,?_⟩
   rw [h3,List.drop_eq_nil_of_le za];rfl) (1,0) ⟨0,rfl,Nat.zero_le _,zc,zc,rfl⟩
 unfold dS
 rw [h]
 rcases o with y|y
 ·exact⟨y,rfl,by rw [hq.2];simpa using hq.1⟩
 ·exact⟨y,rfl,by rw [hq.2,hq.1];rfl⟩
theorem vP_eq{r:Resp}(hr:ROk r):dM r=some (vP r):=by
 unfold dM vP
 by_cases h8:r.aV.length<=8
 ·rw [if_neg so,allv_eq hr,zd]
  cases hv:r.aV.all vS with
  |false=>simp
  |true=>
   obtain⟨p,h1,h2⟩:=factor_eq hr hv
   rw [if_neg sm,h1,zd,h2];simp [h8]
 ·rw [if_pos so];simp [h8]
theorem ref_vP_eq{r:Resp}(hr:ROk r):nE r=some (vP r):=by
 obtain⟨hl,ht⟩:=hr
 obtain⟨o,h,hq⟩:=uI (body:=ml r) (fun s=>∃i:Nat,s.2=(i:Int)∧i<=r.aV.length∧1<=s.1∧s.1<=64∧(r.aV.all vS&&jZ 1 r.aV)=((r.aV.drop i).all vS&&jZ s.1 (r.aV.drop i))) (fun s=>((r.aV.length:Int)-s.2).toNat)
  (fun o => match o with | .inl _ => (r.aV.all vS && jZ 1 r.aV) = true | .inr y => y = false ∧ (r.aV.all vS && jZ 1 r.aV) = false) (by
  rintro⟨x,y⟩ ⟨i,hy,hi,h1,h2,h3⟩
  simp only at hy h1 h2 h3
  subst hy
  unfold ml
  simp only
  by_cases hlt:i<r.aV.length
  ·rw [if_pos so,gK rfl hlt,w64 (n:=(i:Int)+1) za za]
   simp only [zd,ref_vS_eq (ht _ (List.getElem_mem hlt)),lT]
   rw [List.drop_eq_getElem_cons hlt,List.all_cons,prodOk_cons]at h3
   cases hvi:vS r.aV[i]with
   |false=>rw [hvi]at h3;exact .inr ⟨.inr false,sm,rfl,by rw [h3];rfl⟩
   |true=>
   rw [hvi,Bool.true_and]at h3
   simp only [if_true]
   by_cases hk:r.aV[i].b8=2
   ·rw [if_pos (by simpa using hk)]
    rw [if_pos hk]at h3
    obtain⟨f1,f2⟩:=vS_factor hvi hk
    have m1:1<=x*r.aV[i].bt:=by have:=Int.mul_le_mul h1 f1 za za;omega
    have m2:x*r.aV[i].bt<=64*64:=Int.mul_le_mul h2 f2 za za
    rw [w64 (n:=x*r.aV[i].bt) za za]
    by_cases hp:x*r.aV[i].bt<=64
    ·rw [if_neg so]
     refine .inl ⟨_,rfl,⟨i+1,rfl,za,m1,hp,?_⟩,zc⟩
     rw [h3];simp [hp]
    ·rw [if_pos so]
     refine .inr ⟨_,rfl,rfl,?_⟩
     rw [h3];simp [hp]
   ·rw [if_neg (by simpa using hk)]
    rw [if_neg hk]at h3
    exact .inl ⟨_,rfl,⟨i+1,rfl,za,h1,h2,h3⟩,zc⟩
  ·rw [if_neg so]
   refine .inr ⟨_,rfl,?_⟩
   simp only
   rw [h3,List.drop_eq_nil_of_le za];rfl) (1,0) ⟨0,rfl,Nat.zero_le _,zc,zc,rfl⟩
 unfold nE vP
 rw [h,zd]
 have e:decide ((r.aV.length:Int)<=8)=decide (r.aV.length<=8):=decide_eq_decide.2 za
 rcases o with y|y
 ·simp only at hq
  rw [hq,e,Bool.and_true]
 ·rw [hq.2,hq.1];simp
noncomputable def vE (e:Epoch):Bool:=decide (e.bj>=0)&&(decide (e.bj<e.fTo)&&(decide (e.fTo<=9007199254740992)&&(vR e.di&&(vP e.bu&&(inB e.aP.fX (-1048576) 1048576&&(inB e.aP.fY (-1048576) 1048576&&inB e.aP.fZ (-16384) 1048576))))))
theorem vE_eq{e:Epoch}(he:ROk e.bu):cH e=some (vE e):=by
 unfold cH vE
 simp only [vR_eq,vP_eq he,iin_eq,zd,jL]
theorem ref_vE_eq{e:Epoch}(he:ROk e.bu):jl e=some (vE e):=by
 unfold jl vE
 simp only [ref_vR_eq,ref_vP_eq he,In_eq,zd,jL]
def EOk(l:List Epoch):Prop:=l.length<=4000000000∧∀e∈l,ROk e.bu
noncomputable def pV (l:List Epoch) (i:Nat):Bool:=match l[i]? with
 |some e=>vE e&&(decide (i=0)||match l[i-1]? with|some p=>decide (p.fTo<=e.bj)|none=>true)
 |none=>true
noncomputable def vEs (l:List Epoch):Bool:=(List.range l.length).all (pV l)&&inB l.length 1 32
theorem stepE_0{l:List Epoch}(h:0<l.length):pV l 0=vE l[0]:=by
 unfold pV;rw [ze h];simp
theorem stepE_s{l:List Epoch}{i:Nat}(h:i+1<l.length):pV l (i+1)=(vE l[i+1]&&decide (l[i].fTo<=l[i+1].bj)):=by
 unfold pV;rw [ze h]
 simp only [Nat.add_sub_cancel,ze (show i<l.length by omega)]
 simp
theorem epochs_loop{l:List Epoch}(hl:EOk l):dW (cJ l) (0:Int)=some (if(List.range l.length).all (pV l)=true then .inl ()else .inr false):=by
 obtain⟨hl,ht⟩:=hl
 refine rH l.length (fun i hi=>?_) ?_
 ·unfold cJ
  rw [if_pos so,gK rfl hi,w64 (n:=(i:Int)+1) za za]
  simp only [zd,vE_eq (ht _ (List.getElem_mem hi)),lT]
  match i,hi with
  |0,hi=>
   rw [stepE_0 hi,if_neg (c:=decide (((0:Nat):Int)>0)=true) sm];rfl
  |i+1,hi=>
   rw [stepE_s hi,if_pos (c:=decide (((i+1:Nat):Int)>0)=true) (decide_eq_true za),w64 za za,gK (i:=i) za za,zd]
   cases vE l[i+1]with
   |false=>simp
   |true=>
    by_cases h:l[i].fTo<=l[i+1].bj
    ·rw [if_neg (c:=decide (l[i+1].bj<l[i].fTo)=true) so];simp [h]
    ·rw [if_pos (c:=decide (l[i+1].bj<l[i].fTo)=true) so];simp [h]
 ·unfold cJ
  rw [if_neg sm]
theorem epochs_eq{l:List Epoch}(hl:EOk l):dD l=some (vEs l):=by
 unfold dD vEs
 rw [epochs_loop hl,zd]
 cases(List.range l.length).all (pV l)with
 |true=>simp only [if_true,iin_eq,zd,Bool.true_and]
 |false=>rfl
theorem ref_epochs_loop{c:Chan}(hl:EOk c.aT)(s:Int):dW (jP c s) (0:Int)=some (if(List.range c.aT.length).all (pV c.aT)=true then .inl s else .inr false):=by
 obtain⟨hl,ht⟩:=hl
 refine rH c.aT.length (fun i hi=>?_) ?_
 ·unfold jP
  rw [if_pos so,gK rfl hi,w64 (n:=(i:Int)+1) za za]
  simp only [zd,ref_vE_eq (ht _ (List.getElem_mem hi)),lT]
  match i,hi with
  |0,hi=>
   rw [stepE_0 hi,if_neg (c:=decide (((0:Nat):Int)>0)=true) sm];rfl
  |i+1,hi=>
   rw [stepE_s hi,if_pos (c:=decide (((i+1:Nat):Int)>0)=true) (decide_eq_true za),w64 za za,gK (i:=i) za za,zd]
   cases vE c.aT[i+1]with
   |false=>simp
   |true=>
    by_cases h:c.aT[i].fTo<=c.aT[i+1].bj
    ·rw [if_neg (c:=decide (c.aT[i+1].bj<c.aT[i].fTo)=true) so];simp [h]
    ·rw [if_pos (c:=decide (c.aT[i+1].bj<c.aT[i].fTo)=true) so];simp [h]
 ·unfold jP
  rw [if_neg sm]
def COk(c:Chan):Prop:=b9 c.aw∧EOk c.aT
def IOk(l:List Chan):Prop:=l.length<=4000000000∧∀c∈l,COk c
noncomputable def rZ (l:List Chan) (i:Nat):Bool:=match l[i]? with
 |some c=>gz c.aw&&vEs c.aT&&(decide (i=0)||match l[i-1]? with|some p=>decide (iC p.aw c.aw<0)|none=>true)
 |none=>true
noncomputable def vI (l:List Chan):Bool:=(List.range l.length).all (rZ l)&&decide (l.length<=128)
theorem stepI_0{l:List Chan}(h:0<l.length):rZ l 0=(gz l[0].aw&&vEs l[0].aT):=by
 unfold rZ;rw [ze h];simp
theorem stepI_s{l:List Chan}{i:Nat}(h:i+1<l.length):rZ l (i+1)=(gz l[i+1].aw&&vEs l[i+1].aT&&decide (iC l[i].aw l[i+1].aw<0)):=by
 unfold rZ;rw [ze h]
 simp only [Nat.add_sub_cancel,ze (show i<l.length by omega)]
 simp
theorem vI_eq{l:List Chan}(hl:IOk l):ch ⟨l⟩=some (vI l):=by
 obtain⟨hl,hc⟩:=hl
 unfold ch vI
 rw [rH (body := cU ⟨l⟩) l.length (q := rZ l) (u := .inl ()) (r := .inr false) (fun i hi => by
  unfold cU
  simp only
  rw [if_pos so,gK rfl hi,w64 (n:=(i:Int)+1) za za]
  simp only [zd,pq (hc _ (List.getElem_mem hi)).1,epochs_eq (hc _ (List.getElem_mem hi)).2,Sd.jT,lT]
  match i,hi with
  |0,hi=>
   rw [stepI_0 hi,if_neg (c:=decide (((0:Nat):Int)>0)=true) sm]
   cases gz l[0].aw<;>cases vEs l[0].aT<;>simp
  |i+1,hi=>
   rw [stepI_s hi,if_pos (c:=decide (((i+1:Nat):Int)>0)=true) (decide_eq_true za),w64 za za,gK (i:=i) za za]
   simp only [zd]
   cases gz l[i+1].aw with
   |false=>simp
   |true=>
    cases vEs l[i+1].aT with
    |false=>simp
    |true=>
     by_cases h:iC l[i].aw l[i+1].aw<0
     ·rw [if_neg (c:=decide (iC l[i].aw l[i+1].aw>=0)=true) so];simp [h]
     ·rw [if_pos (c:=decide (iC l[i].aw l[i+1].aw>=0)=true) so];simp [h]) (by
  unfold cU
  rw [if_neg sm]),zd]
 have e:decide ((l.length:Int)<=128)=decide (l.length<=128):=decide_eq_decide.2 za
 cases(List.range l.length).all (rZ l)with
 |true=>simp [e]
 |false=>rfl
theorem ref_vI_eq{l:List Chan}(hl:IOk l):lZ ⟨l⟩=some (vI l):=by
 obtain⟨hl,hc⟩:=hl
 unfold lZ vI
 rw [rH (body := jQ ⟨l⟩) l.length (q := rZ l) (u := .inl ()) (r := .inr false) (fun i hi => by
  unfold jQ jO
  simp only
  rw [if_pos so,gK rfl hi]
  simp only [zd,rV (hc _ (List.getElem_mem hi)).1,ref_epochs_loop (hc _ (List.getElem_mem hi)).2,Sd.ref_Compare_eq,In_eq,lT]
  have he:∀c:Chan,vEs c.aT=((List.range c.aT.length).all (pV c.aT)&&inB c.aT.length 1 32):=fun _=>rfl
  match i,hi with
  |0,hi=>
   rw [stepI_0 hi,if_neg (c:=decide (((0:Nat):Int)>0)=true) sm,he]
   cases gz l[0].aw<;>cases inB l[0].aT.length 1 32<;>cases(List.range l[0].aT.length).all (pV l[0].aT)<;>simp<;>rfl
  |i+1,hi=>
   rw [stepI_s hi,if_pos (c:=decide (((i+1:Nat):Int)>0)=true) (decide_eq_true za),w64 (n:=((i+1:Nat):Int)-1) za za,gK (i:=i) za za,he]
   have hw:∀j:Int,j=((i+1:Nat):Int)->IntKind.wrap .i64 (j+1)=((i+1+1:Nat):Int):=fun j hj=>by subst hj;exact w64 za za
   simp only [zd]
   by_cases h:iC l[i].aw l[i+1].aw<0
   ·rw [if_neg (c:=decide (iC l[i].aw l[i+1].aw>=0)=true) so]
    cases gz l[i+1].aw<;>cases inB l[i+1].aT.length 1 32<;>cases(List.range l[i+1].aT.length).all (pV l[i+1].aT)<;>simp only [Bool.true_and,Bool.and_true,Bool.false_and,Bool.and_false,if_true,Bool.false_eq_true,if_false,h,decide_true,hw _ rfl]
   ·rw [if_pos (c:=decide (iC l[i].aw l[i+1].aw>=0)=true) so]
    cases gz l[i+1].aw<;>simp [h]) (by
  unfold jQ
  rw [if_neg sm]),zd]
 have e:decide ((l.length:Int)<=128)=decide (l.length<=128):=decide_eq_decide.2 za
 cases(List.range l.length).all (rZ l)with
 |true=>simp [e]
 |false=>rfl
theorem loop_run{σ ω:Type}{body:σ->Option (fR σ ω)}(n:Nat)(st:Nat->σ){r:ω}(h1:∀i,i<n->body (st i)=some (.next (st (i+1))))(h2:body (st n)=some (.stop r)):dW body (st 0)=some r:=by
 have:∀k i,i+k=n->dW body (st i)=some r:=by
  intro k
  induction k with
  |zero=>
   intro i hi
   obtain rfl:i=n:=by omega
   exact gI h2
  |succ k ih=>intro i hi;rw [jr (h1 i za)];exact ih (i+1) za
 exact this n 0 za
theorem copy18{r:Resp}(hr:ROk r):oQ r=some r:=by
 obtain⟨hl,ht⟩:=hr
 have : dW (jB r) ((0 : Int), ([] : List Stage)) = some r.aV := loop_run (body := jB r) r.aV.length (fun i => ((i : Int), r.aV.take i)) (fun i hi => by
  have hti:=ht _ (List.getElem_mem hi)
  unfold jB
  simp only
  rw [if_pos (decide_eq_true za),gK rfl hi,zd,d5 so,zd,d5 so,zd,w64 za za,pB hi]
  rfl) (by
  unfold jB
  simp only
  rw [if_neg sm,List.take_length])
 unfold oQ
 rw [this];rfl
theorem copyE{e:Epoch}(he:ROk e.bu):jN e=some e:=by
 unfold jN
 rw [copy18 he];rfl
theorem copyC{l:List Chan}(hl:IOk l){k:Nat}(hk:k<l.length)(s2:List Chan):dW (gq ⟨l⟩ (k:Int) s2) ((0:Int),([]:List Epoch))=some ((k:Int),s2,l[k].aT):=by
 obtain⟨he,hr⟩:=(hl.2 _ (List.getElem_mem hk)).2
 exact loop_run (body := gq ⟨l⟩ (k : Int) s2) l[k].aT.length (fun i => ((i : Int), l[k].aT.take i)) (fun i hi => by
  unfold gq
  simp only
  rw [gK rfl hk]
  simp only [zd]
  rw [if_pos (decide_eq_true za),gK rfl hi,zd,copyE (hr _ (List.getElem_mem hi)),zd,d5 so,zd,w64 za za,pB hi]
  rfl) (by
  unfold gq
  simp only
  rw [gK rfl hk]
  simp only [zd]
  rw [if_neg sm,List.take_length])
theorem copyI{l:List Chan}(hl:IOk l):ng ⟨l⟩=some ⟨l⟩:=by
 have hn:=hl.1
 have : dW (iR ⟨l⟩) ((0 : Int), ([] : List Chan)) = some l := loop_run (body := iR ⟨l⟩) l.length (fun i => ((i : Int), l.take i)) (fun i hi => by
  unfold iR
  simp only
  rw [if_pos (decide_eq_true za),gK rfl hi,zd,copyC hl hi,zd]
  simp only
  rw [d5 so,zd,w64 za za,pB hi]
  rfl) (by
  unfold iR
  simp only
  rw [if_neg sm,List.take_length])
 unfold ng
 rw [this];rfl
end Iv
end Go.Dw.Em
set_option maxRecDepth 100000
set_option maxHeartbeats 4000000
namespace Go.Dw.Em
open Go.Dw Go.Proofs
open Sd (iC fd eD)
structure IA(v:al):Prop where
 len:InvLen v
 src:∀c∈v.aJ,Sq.SidLen c.aw
theorem RespLen.rok{r:aL}(h:RespLen r):Iv.ROk r:=⟨by have:=h.1;omega,fun s hs=>by have:=h.2 s hs;omega⟩
theorem IA.iok{v:al}(h:IA v):Iv.IOk v.aJ:=
 ⟨by have:=h.len.len;omega,fun c hc=>⟨h.src c hc,by have:=(h.len.all c hc).1;omega,fun e he=>((h.len.all c hc).2 e he).rok⟩⟩
theorem val_eq{v:al}(h:IA v):ch v=some (Iv.vI v.aJ):=Iv.vI_eq h.iok
theorem ref_val_eq{v:al}(h:IA v):lZ v=some (Iv.vI v.aJ):=Iv.ref_vI_eq h.iok
theorem kZ.ia{v:al}(h:kZ v):IA v:=⟨h.lens,fun c hc=>sid_len (h.all c hc).1⟩
noncomputable def atR (v:al) (s:Sid) (t:Int):ap×Int:=if Iv.vI v.aJ=true then(match px v s t with|none=>(zEp,6)|some e=>(e,0))else(zEp,1)
theorem refFind_eq{v:al}(h:IA v)(s:Sid):oR v s=some (match qJ v s with|none=>(zCh,false)|some c=>(c,true)):=by
 have hl:=h.len.len
 unfold oR
 rw [qa v.aJ (p:=fun c=>decide (c.aw=s)) (f:=fun c=>(c,true)) (fun i hi=>?_) ?_,zd]
 ·unfold qJ
  cases v.aJ.find? fun c=>decide (c.aw=s)<;>rfl
 ·unfold nW
  rw [if_neg sm]
 ·unfold nW
  have hc:(v.aJ.drop i).take (i+1-i)=[v.aJ[i]]:=by
   rw [List.drop_eq_getElem_cons hi,show i+1-i=1 by omega];rfl
  have hcp : ng ⟨[v.aJ[i]]⟩ = some ⟨[v.aJ[i]]⟩ := Iv.copyI ⟨sm, fun c hc => by
   rw [List.mem_singleton.1 hc]
   exact h.iok.2 _ (List.getElem_mem hi)⟩
  rw [if_pos so,gK rfl hi,zd,Sd.eqs,w64 za za,Sq.cutO_at (i:=i) (j:=i+1) rfl sm za za,hc,zd,hcp,zd]
  by_cases e:v.aJ[i].aw=s
  ·rw [if_pos (by simpa using e),if_pos (by simpa using e)];rfl
  ·rw [if_neg (by simpa using e),if_neg (by simpa using e)];simp
theorem refAt_any{v:al}(h:IA v)(s:Sid)(t:Int):oi v s t=some (atR v s t):=by
 unfold atR
 cases hv:Iv.vI v.aJ with
 |false=>
  unfold oi
  rw [ref_val_eq h,hv];rfl
 |true=>
  unfold oi
  rw [ref_val_eq h,hv,zd,if_neg sm,refFind_eq h,zd,if_pos rfl]
  have hloop:∀(c:aq)(b:Bool),c.aT.length<=1000->dW (mG (c,b) t) (0:Int)=some (match mc c.aT t with|none=>.inl ()|some e=>.inr (e,0)):=fun c b hc=>by
   unfold mc
   rw [qa c.aT (p:=fun e=>decide (e.bj<=t∧t<e.fTo)) (f:=fun e=>(e,(0:Int))) (fun i hi=>?_) ?_]
   ·cases c.aT.find? fun e=>decide (e.bj<=t∧t<e.fTo)<;>rfl
   ·unfold mG
    rw [if_neg sm]
   ·unfold mG
    dsimp only
    rw [if_pos so,gK rfl hi,zd,zd,zd,w64 za za]
    by_cases h1:c.aT[i].bj<=t<;>by_cases h2:t<c.aT[i].fTo<;>simp [h1,h2]
  unfold px
  cases hc:qJ v s with
  |none=>
   dsimp only
   rw [hloop _ _ (by simp [zCh])]
   rfl
  |some c=>
   dsimp only
   rw [hloop _ _ (h.len.all c (ru hc).1).1]
   simp only [zd]
   cases mc c.aT t<;>rfl
def SLen(p:Pick):Prop:=Sq.SidLen p.aw
def vPk(p:Pick):Bool:=Sq.gz p.aw&&(decide (0<=p.aQ)&&(decide (p.aQ<=p.bn)&&(decide (p.bn<=p.bw)&&(decide (p.bw<=18014398509481984)&&((decide (0<=p.bg)&&decide (p.bg<=1073741823))&&(decide (-1<=p.bz)&&decide (p.bz<=1)))))))
theorem in_eq(a b c:Int):fx a b c=some (decide (b<=a)&&decide (a<=c)):=by
 unfold fx
 by_cases h:b<=a
 ·rw [if_pos (by simpa using h),decide_eq_true h];rfl
 ·rw [if_neg (by simpa using h),decide_eq_false h];rfl
theorem vp_eq{p:Pick}(h:SLen p):df p=some (vPk p):=by
 unfold df vPk
 rw [Sq.pq h,zd,in_eq,in_eq]
 by_cases h0:Sq.gz p.aw=true
 rotate_left
 ·simp [h0]
 by_cases h1:0<=p.aQ
 rotate_left
 ·simp [h0,h1]
 by_cases h2:p.aQ<=p.bn
 rotate_left
 ·simp [h0,h1,h2]
 by_cases h3:p.bn<=p.bw
 rotate_left
 ·simp [h0,h1,h2,h3]
 by_cases h4:p.bw<=18014398509481984
 rotate_left
 ·simp [h0,h1,h2,h3,h4]
 by_cases h5:0<=p.bg<;>by_cases h6:p.bg<=1073741823<;>simp [h0,h1,h2,h3,h4,h5,h6]
theorem ref_vp_eq{p:Pick}(h:SLen p):gZ p=some (vPk p):=by
 rw [<-vp_eq h]
 have e1:kj p.aw=fT p.aw:=by rw [Iv.rV h,Sq.pq h]
 have e2:∀a b c,cV a b c=fx a b c:=fun a b c=>rfl
 unfold gZ df
 rw [e1]
 simp only [e2]
end Go.Dw.Em
