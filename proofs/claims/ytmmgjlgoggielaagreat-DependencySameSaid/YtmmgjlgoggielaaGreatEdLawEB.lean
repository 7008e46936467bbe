
import Derived.Test.YtmmgjlgoggielaaGreatEdLawW
import Derived.Test.YtmmgjlgoggielaaGreatDwPlain
import Derived.Test.YtmmgjlgoggielaaGreatEdCo
import Derived.KernelRfl

set_option maxRecDepth 100000
set_option maxHeartbeats 4000000
namespace Go.Dw.Ed
open Go.Dw Go.Proofs
abbrev Item:=ak
theorem less_ok{d:List Item}{i j:Int}(hi:0<=i∧i<d.length)(hj:0<=j∧j<d.length):Ok (gY d i j) (fun _=>True):=by
 unfold gY
 refine Ok.bind (Ok.get hi.1 hi.2) (fun a _=>?_)
 refine Ok.bind (Ok.get hj.1 hj.2) (fun b _=>?_)
 rw [Sd.iS,zd]
 refine Ok.bind (Ok.get hi.1 hi.2) (fun a' _=>?_)
 refine Ok.bind (Ok.get hj.1 hj.2) (fun b' _=>?_)
 rw [Sd.iS,zd]
 obtain⟨r,e⟩:=or_some [qU a.ce b.ce,qU a'.f8 b'.f8] sm
 rw [e]
 exact Ok.ret trivial
theorem swap_ok{d:List Item}{i j:Int}(hi:0<=i∧i<d.length)(hj:0<=j∧j<d.length):
  Ok (gZ i j d) (fun r=>r.Perm d∧(r[j.toNat]? =d[i.toNat]?)∧∀k:Nat,k≠i.toNat->k≠j.toNat->r[k]? =d[k]?):=by
 unfold gZ
 refine Ok.bind (Ok.rz hj.1 hj.2) (fun _ _=>Ok.bind (Ok.get hj.1 hj.2) (fun a ga=>?_))
 refine Ok.bind (Ok.rz hi.1 hi.2) (fun _ _=>Ok.bind (Ok.get hi.1 hi.2) (fun b gb=>?_))
 refine Ok.bind (Ok.rz hi.1 hi.2) (fun _ _=>Ok.bind (Ok.set hi.1 hi.2) (fun e he=>?_))
 subst he
 refine Ok.bind (Ok.rz hj.1 (by simpa using hj.2)) (fun _ _=>Ok.bind (Ok.set hj.1 (by simpa using hj.2)) (fun e he=>?_))
 subst he
 have h1:i.toNat<d.length:=by omega
 have h2:j.toNat<d.length:=by omega
 obtain⟨_,rfl⟩:=List.getElem?_eq_some_iff.1 ga.2
 obtain⟨_,rfl⟩:=List.getElem?_eq_some_iff.1 gb.2
 refine Ok.ret ⟨List.set_set_perm h1 h2,?_,fun k k1 k2=>?_⟩
 ·rw [List.getElem?_set_self (by simpa using h2),ze h1]
 ·rw [List.getElem?_set_ne (Ne.symm k2),List.getElem?_set_ne (Ne.symm k1)]
theorem up_ok{q:ag}{a b:Int}{f:Bool}{l:aj}{d:List Item}{j:Int}(hj:0<=j∧j<d.length)(hd:d.length<=1000):Ok (mX j q a b f l d) (fun r=>r.Perm d):=by
 unfold mX
 refine Ok.bind (P:=fun o:List Item=>o.Perm d) (Ok.loop (fun s:Int×List Item=>(0<=s.1∧s.1<d.length)∧s.2.Perm d) (fun s=>s.1.toNat) ?_ ⟨hj,List.Perm.refl _⟩) (fun o ho=>Ok.ret ho)
 rintro⟨s1,s2⟩ ⟨⟨i0,i1⟩,i2⟩
 simp only at i0 i1 i2
 have hlen:s2.length=d.length:=i2.length_eq
 unfold l5
 dsimp only
 rw [w64 (n:=s1-1) za za]
 have e:ru .i64 (s1-1) 2=some (if s1=0 then 0 else(s1-1) / 2):=by
  unfold ru
  rw [if_neg za]
  split
  ·rename_i h;subst h;rfl
  ·rw [Int.tdiv_eq_ediv_of_nonneg za,w64 za za]
 rw [e,zd]
 refine Ok.rF (fun _=>by rw [zd];exact Ok.st i2) (fun hne=>?_)
 have hp:s1≠0:=fun h=>hne (by rw [if_pos h,h])
 rw [if_neg hp]
 refine Ok.bind (less_ok za za) (fun x _=>?_)
 refine Ok.vg (fun _=>by rw [zd];exact Ok.st i2) (fun _=>?_)
 exact Ok.bind (swap_ok za za) (fun y hy=>Ok.nx ⟨⟨zc,zc⟩,hy.1.trans i2⟩ zc)
theorem down_ok{q:ag}{a b:Int}{f:Bool}{l:aj}{d:List Item}{n:Int}(hn:0<=n∧n<d.length)(hd:d.length<=1000):Ok (lA 0 n q a b f l d) (fun r=>r.2.Perm d∧r.2[n.toNat]? =d[n.toNat]?):=by
 unfold lA
 refine Ok.bind (P:=fun o:Int×List Item=>o.2.Perm d∧o.2[n.toNat]? =d[n.toNat]?) (Ok.loop (fun s:Int×List Item=>(0<=s.1∧s.1<=n)∧s.2.Perm d∧s.2[n.toNat]? =d[n.toNat]?) (fun s=>(n-s.1).toNat) ?_ ⟨⟨sm,hn.1⟩,List.Perm.refl _,rfl⟩) (fun o ho=>Ok.ret ho)
 rintro⟨s1,s2⟩ ⟨⟨i0,i1⟩,i2,i3⟩
 simp only at i0 i1 i2 i3
 have hlen:s2.length=d.length:=i2.length_eq
 unfold mm
 dsimp only
 rw [w64 (n:=2*s1) za za,w64 (n:=2*s1+1) za za,w64 (n:=2*s1+1+1) za za]
 refine Ok.pL (fun _=>Ok.st ⟨i2,i3⟩) (fun h1=>Ok.pL (fun _=>Ok.st ⟨i2,i3⟩) (fun _=>?_))
 have K:∀j,s1<j->j<n->Ok (er s2 s1 j) (Ok.S (fun s:Int×List Item=>(0<=s.1∧s.1<=n)∧s.2.Perm d∧s.2[n.toNat]? =d[n.toNat]?) (fun s=>(n-s.1).toNat) (fun o:Int×List Item=>o.2.Perm d∧o.2[n.toNat]? =d[n.toNat]?) (s1,s2)):=fun j j0 j1=>by
  unfold er
  refine Ok.bind (less_ok za za) (fun x _=>?_)
  refine Ok.vg (fun _=>Ok.st ⟨i2,i3⟩) (fun _=>?_)
  exact Ok.bind (swap_ok za za) (fun y hy=>Ok.nx ⟨⟨zc,zc⟩,hy.1.trans i2,by rw [<-i3];exact hy.2.2 _ za za⟩ zc)
 refine Ok.pL (fun h2=>?_) (fun _=>K _ za za)
 refine Ok.bind (less_ok za za) (fun x _=>?_)
 exact Ok.yJ (fun _=>K _ za za) (fun _=>K _ za za)
theorem pop_ok{q:ag}{a b:Int}{f:Bool}{l:aj}{x:Item}{d:List Item}(hd:(x::d).length<=1000):Ok (mF q a b f l (x::d)) (fun r=>r.2.Perm d):=by
 have hlen:((x::d).length:Int)=d.length+1:=by simp
 simp only [List.length_cons]at hd
 unfold mF gA
 rw [zd]
 rw [hlen,w64 (n:=(d.length:Int)+1-1) za za]
 refine Ok.bind (swap_ok za za) (fun y⟨p1,p2,_⟩=>?_)
 have hy:y.length=d.length+1:=by have:=p1.length_eq;simpa using this
 refine Ok.bind (down_ok za za) (fun z⟨z1,z2⟩=>?_)
 have hz:z.2.length=d.length+1:=by rw [z1.length_eq,hy]
 unfold oe
 rw [hz,w64 (n:=((d.length+1:Nat):Int)-1) za za]
 refine Ok.bind (P:=fun r:Item×List Item=>r.2.Perm d) ?_ (fun r hr=>Ok.ret hr)
 refine Ok.bind (Ok.rz za za) (fun _ _=>Ok.bind (Ok.get za za) (fun w _=>?_))
 refine Ok.bind (Ok.sub za za za) (fun _ _=>Ok.ret ?_)
 simp only
 rw [show(((d.length+1:Nat):Int)-1).toNat=d.length by omega]
 have e:z.2[d.length]? =some x:=by
  rw [show((d.length:Int)+1-1).toNat=d.length by omega]at z2 p2
  rw [z2,p2];rfl
 obtain⟨hh,e⟩:=List.getElem?_eq_some_iff.1 e
 have h3:z.2=z.2.take d.length++[x]:=by
  conv=>lhs;rw [<-List.take_append_drop d.length z.2]
  rw [List.drop_eq_getElem_cons hh,e,List.drop_of_length_le za]
 have h4:(z.2.take d.length++[x]).Perm (x::d):=by rw [<-h3];exact z1.trans p1
 have h5:(x::z.2.take d.length).Perm (x::d):=(List.perm_append_comm (l₁:=[x])).trans h4
 exact(List.perm_cons x).1 h5
theorem push_ok{q:ag}{a b:Int}{f:Bool}{l:aj}{x:Item}{d:List Item}(hd:d.length<=500):Ok (kc x q a b f l d) (fun r=>r.Perm (x::d)):=by
 unfold kc l8 gA
 refine Ok.bind (P:=fun r=>r=d++[x]) (Ok.bind (Ok.app (by simp only [List.length_cons,List.length_nil];omega)) (fun r hr=>Ok.ret hr)) (fun y hy=>?_)
 subst hy
 rw [zd]
 have hl:((d++[x]).length:Int)=d.length+1:=by simp
 rw [hl,w64 za za]
 exact Ok.bind (up_ok za so) (fun r hr=>Ok.ret (hr.trans (List.perm_append_comm (l₂:=[x]))))
theorem push1_ok{q:ag}{a b:Int}{f:Bool}{l:aj}{x:Item}:Ok (lz x q a b f l) (fun r=>r.Perm [x]):=by
 unfold lz m8 gA
 refine Ok.bind (P:=fun r=>r=[x]) (Ok.bind (Ok.app sm) (fun r hr=>Ok.ret hr)) (fun y hy=>?_)
 subst hy
 rw [zd]
 rw [w64 sm sm]
 exact Ok.bind (up_ok sm sm) (fun r hr=>Ok.ret hr)
def cnt:List Item->Int
 | []=>0
 |x::l=>(2*pts x.jd-1)+cnt l
theorem kF{l m:List Item}(h:l.Perm m):cnt l=cnt m:=by
 induction h with
 |nil=>rfl
 |cons x _ ih=>simp only [cnt,ih]
 |swap x y l=>simp only [cnt];omega
 |trans _ _ h1 h2=>rw [h1,h2]
def kW(r:ah)(l:List Item):Prop:=∀x∈l,Sub r x.jd
theorem kW.perm{r:ah}{l m:List Item}(h:kW r m)(hp:l.Perm m):kW r l:=fun x hx=>h x (hp.mem_iff.1 hx)
theorem cnt_len{q:ag}(hq:PV q){l:List Item}(h:kW q.aK l):(l.length:Int)<=cnt l:=by
 induction l with
 |nil=>simp [cnt]
 |cons x l ih=>
  have h1:=ih fun y hy=>h y (List.mem_cons_of_mem _ hy)
  have h2:=(pts_in ((h x sm).ok hq.box hq.reg)).1
  simp only [cnt,List.length_cons];omega
def Good(q:ag)(l:aj):Prop:=Sub q.aK ⟨l.aU,l.aU⟩∧(Single q->l.bi=0)
theorem add_ok{q:ag}(hq:PV q){b:ah}(hb:Sub q.aK b){n k:Int}{f:Bool}{l:aj}{d:List Item}(hd:d.length<=500):Ok (hX b q n k f l d) (fun r=>r.1=0∧∃x:Item,x.jd=b∧r.2.2.Perm (x::d)):=by
 unfold hX hY
 refine Ok.bind (bound_ok hq hb) (fun x hx=>?_)
 refine Ok.rF (fun _=>?_) (fun h=>(h hx).elim)
 exact Ok.bind (push_ok hd) (fun r hr=>Ok.ret ⟨hx,_,rfl,hr⟩)
theorem add1_ok{q:ag}(hq:PV q){b:ah}(hb:Sub q.aK b){n k:Int}{f:Bool}{l:aj}:Ok (kk b q n k f l) (fun r=>r.1=0∧∃x:Item,x.jd=b∧r.2.1.Perm [x]):=by
 unfold kk iP
 refine Ok.bind (bound_ok hq hb) (fun x hx=>?_)
 refine Ok.rF (fun _=>?_) (fun h=>(h hx).elim)
 exact Ok.bind push1_ok (fun r hr=>Ok.ret ⟨hx,_,rfl,hr⟩)
theorem look_ok{q:ag}(hq:PV q){b:ah}(hb:Sub q.aK b){n k:Int}{f:Bool}{l:aj}{d:List Item}(hf:f=true->Good q l):Ok (jp b q n k f l d) (fun r=>r.1=0∧r.2.1=true∧Good q r.2.2):=by
 unfold jp
 refine Ok.bind (center_ok hq.box hq.reg hb) (fun p hp=>?_)
 refine Ok.bind (at_ok hq hp) (fun x hx=>?_)
 refine Ok.qP (fun h=>(h hx.1).elim) (fun _=>?_)
 have hg:Good q (aj.mk p x.1 x.2.1 0 (ah.mk (aa.mk 0 0 0) (aa.mk 0 0 0))):=⟨hp,hx.2⟩
 refine Ok.vg (fun _=>Ok.ret ⟨rfl,rfl,hg⟩) (fun hft=>?_)
 refine Ok.pL (fun _=>Ok.ret ⟨rfl,rfl,hg⟩) (fun _=>Ok.rF (fun _=>?_) (fun _=>Ok.ret ⟨rfl,hft,hf hft⟩))
 exact Ok.bind (compare_ok _ _) (fun c _=>Ok.pL (fun _=>Ok.ret ⟨rfl,rfl,hg⟩) (fun _=>Ok.ret ⟨rfl,hft,hf hft⟩))
theorem ended_ok{t:Int}{q:ag}{n k:Int}{f:Bool}{l:aj}{d:List Item}:Ok (iy t q n k f l d) (fun r=>(r=false->d≠ [])∧(r=true->d=[]∨f=true)):=by
 unfold iy
 refine Ok.rF (fun h=>Ok.ret ⟨fun h=>by simp at h,fun _=>.inl (List.length_eq_zero_iff.1 za)⟩) (fun h=>?_)
 have hd:d≠ []:=fun e=>h (by rw [e];rfl)
 have:=List.length_pos_iff.2 hd
 refine Ok.yJ (fun hf=>?_) (fun _=>Ok.ret ⟨fun _=>hd,fun h=>by simp at h⟩)
 exact Ok.bind (Ok.rz za za) (fun _ _=>Ok.bind (Ok.get za za) (fun _ _=>Ok.ret ⟨fun _=>hd,fun _=>.inr hf⟩))
theorem step_ok{q:ag}(hq:PV q){n k:Int}{f:Bool}{l:aj}{d:List Item}(hd:d≠ [])(ho:kW q.aK d)(hk:0<=k∧k+cnt d<=300)(hf:f=true->Good q l):
  Ok (jq q n k f l d) (fun r=>r.1=0∧r.2.2.1=k+1∧r.2.2.2.1=true∧Good q r.2.2.2.2.1∧kW q.aK r.2.2.2.2.2∧r.2.2.2.2.2.length<=d.length+1∧k+1+cnt r.2.2.2.2.2<=k+cnt d):=by
 match d,hd with
 |x::d,_=>
  have hlen:=cnt_len hq ho
  have hx:=ho x sm
  have ho':kW q.aK d:=fun y hy=>ho y (List.mem_cons_of_mem _ hy)
  have hpx:=pts_in (hx.ok hq.box hq.reg)
  simp only [List.length_cons]at hlen
  unfold jq
  refine Ok.rF (fun h=>za) (fun _=>?_)
  refine Ok.bind (Ok.rz za sm) (fun _ _=>?_)
  rw [show pH (x::d) (0:Int)=some x from rfl,zd]
  refine Ok.bind (pop_ok (by simp only [List.length_cons];omega)) (fun y hy=>?_)
  have hyl:y.2.length=d.length:=hy.length_eq
  have hyo:kW q.aK y.2:=ho'.perm hy
  have hyc:cnt y.2=cnt d:=kF hy
  have hcx:cnt (x::d)=(2*pts x.jd-1)+cnt d:=rfl
  rw [w64 za za]
  refine Ok.bind (look_ok hq hx hf) (fun z hz=>?_)
  refine Ok.qP (fun h=>(h hz.1).elim) (fun _=>?_)
  refine Ok.bind (yY hq.box hq.reg hx) (fun s hs=>?_)
  refine Ok.vg (fun _=>Ok.ret ⟨rfl,rfl,hz.2.1,hz.2.2,hyo,so,zc⟩) (fun hst=>?_)
  obtain⟨s1,s2,s3⟩:=hs hst
  refine Ok.bind (add_ok hq s1 za) (fun u⟨u1,a,ua,up⟩=>?_)
  refine Ok.qP (fun h=>(h u1).elim) (fun _=>?_)
  have hul:u.2.2.length=d.length+1:=by rw [up.length_eq];simp [hyl]
  refine Ok.bind (add_ok hq s2 za) (fun v⟨v1,b,vb,vp⟩=>Ok.ret ⟨v1,rfl,hz.2.1,hz.2.2,?_,?_,?_⟩)
  ·refine kW.perm (fun w hw=>?_) vp
   rcases List.mem_cons.1 hw with rfl|hw
   ·rw [vb];exact s2
   ·rcases List.mem_cons.1 (up.mem_iff.1 hw)with rfl|hw
    ·rw [ua];exact s1
    ·exact hyo w hw
  ·simp only
   rw [vp.length_eq];simp only [List.length_cons];omega
  ·simp only
   rw [kF vp,hcx]
   simp only [cnt]
   rw [kF up]
   simp only [cnt]
   rw [ua,vb];omega
theorem run_ok{q:ag}(hq:PV q){t:Int}(ht:0<=t):Ok (gP q t) (fun r=>r.2=0∧∃s,r.1=some s∧Good q s.bQ∧kW q.aK s.jD∧s.jD.length<=300):=by
 have hpr:=pts_in hq.box
 unfold gP
 rw [mg hq,zd,if_neg sm,if_neg so]
 refine Ok.bind (add1_ok hq (Sub.refl hq.box)) (fun x⟨x1,a,xa,xp⟩=>?_)
 refine Ok.qP (fun h=>(h x1).elim) (fun _=>?_)
 have hxc:cnt x.2.1=2*pts q.aK-1:=by rw [kF xp];simp only [cnt];rw [xa];omega
 have hxo:kW q.aK x.2.1:=kW.perm (fun w hw=>by rw [List.mem_singleton.1 hw,xa];exact Sub.refl hq.box) xp
 refine Ok.bind (P:=fun o=>∃y,o= .inl y∧Good q y.2.2.2.2∧kW q.aK y.1∧y.1.length<=300) (Ok.loop (fun s:Int×Int×Bool×aj×List Item=>(0<=s.2.1∧s.2.1+cnt s.2.2.2.2<=300)∧kW q.aK s.2.2.2.2∧(s.2.2.1=true->Good q s.2.2.2.1)∧(s.2.2.2.2=[]->s.2.2.1=true)) (fun s=>(300-s.2.1).toNat) ?_ ⟨⟨sm,zc⟩,hxo,sm,fun h=>?_⟩) (fun o⟨y,ho,h1,h2,h3⟩=>by subst ho;exact Ok.ret ⟨rfl,_,rfl,h1,h2,h3⟩)
 ·rintro⟨s6,s7,s8,s9,s10⟩ ⟨⟨i0,i1⟩,i2,i3,i4⟩
  simp only at i0 i1 i2 i3 i4
  have hl:=cnt_len hq i2
  unfold jH
  dsimp only
  refine Ok.bind ended_ok (fun e he=>?_)
  refine Ok.vg (fun hef=>?_) (fun het=>Ok.st ⟨_,rfl,?_,i2,zc⟩)
  ·have hne:=he.1 hef
   have:=List.length_pos_iff.2 hne
   refine Ok.bind (step_ok hq hne i2 ⟨i0,i1⟩ i3) (fun r⟨r1,r2,r3,r4,r5,r6,r7⟩=>?_)
   refine Ok.qP (fun h=>(h r1).elim) (fun _=>?_)
   exact Ok.nx ⟨⟨zc,zc⟩,r5,fun _=>r4,fun _=>r3⟩ zc
  ·refine i3 ?_
   rcases he.2 het with h|h
   ·exact i4 h
   ·exact h
 ·simp only at h
  rw [h]at hxc
  simp only [cnt]at hxc;omega
theorem locate_ok{q:ag}(hq:PV q){t:Int}(ht:0<=t):Ok (c7 q t) (fun r=>r.2=0∧Sub q.aK r.1.aZ∧(Single q->r.1.bi=0)):=by
 unfold c7
 refine Ok.bind (run_ok hq ht) (fun x⟨x1,s,xs,⟨g1,g2⟩,ho,hs⟩=>?_)
 rw [xs]
 show Ok (if(x.2 != (0:Int))=true then _ else _) _
 refine Ok.qP (fun h=>(h x1).elim) (fun _=>?_)
 refine Ok.bind (P:=fun o:Int×ah=>Sub q.aK o.2) (Ok.loop (fun u:Int×Int×ah=>(0<=u.1∧u.1<=s.jD.length)∧Sub q.aK u.2.2) (fun u=>((s.jD.length:Int)-u.1).toNat) ?_ ⟨⟨sm,sm⟩,g1⟩) (fun o ho=>Ok.ret ⟨rfl,ho,g2⟩)
 rintro⟨u1,u2,u3⟩ ⟨⟨i0,i1⟩,i2⟩
 simp only at i0 i1 i2
 unfold jG
 refine Ok.pL (fun hlt=>?_) (fun _=>Ok.st i2)
 refine Ok.bind (Ok.get za za) (fun y hy=>?_)
 rw [w64 za za]
 refine Ok.pL (fun _=>?_) (fun _=>Ok.nx ⟨⟨zc,zc⟩,i2⟩ zc)
 exact Ok.bind (hull_ok hq.box hq.reg i2 (ho y hy.1)) (fun z hz=>Ok.nx ⟨⟨zc,zc⟩,hz⟩ zc)
end Go.Dw.Ed
set_option maxRecDepth 100000
set_option maxHeartbeats 4000000
namespace Go.Dw.Ed
open Go.Dw Go.Proofs
theorem has_max:∀{l:List Int},l≠ []->∃m∈l,∀x∈l,x<=m
 | [a],_=>⟨a,sm,sm⟩
 |a::b::r,_=>by
  obtain⟨m,h1,h2⟩:=has_max (l:=b::r) sm
  by_cases h:a<=m
  ·exact ⟨m, List.mem_cons_of_mem _ h1, fun x hx => by
    rcases List.mem_cons.1 hx with rfl|hx
    ·exact h
    ·exact h2 x hx⟩
  ·exact ⟨a, sm, fun x hx => by
    rcases List.mem_cons.1 hx with rfl|hx
    ·exact Int.le_refl _
    ·have:=h2 x hx;omega⟩
theorem has_min{l:List Int}(h:l≠ []):∃m∈l,∀x∈l,m<=x:=by
 obtain⟨m,h1,h2⟩:=has_max (l:=l.map fun x=> -x) (by simpa using h)
 obtain⟨y,hy,rfl⟩:=List.mem_map.1 h1
 exact⟨y,hy,fun x hx=>by have:=h2 (-x) (List.mem_map.2 ⟨x,hx,rfl⟩);omega⟩
def res(z:aF)(t:Int):Int:=max 0 (max (t-z.fTo) (z.bj-t))
def gG(cap w:Int)(z:aF)(t:Int):Int:=w*min cap (res z t)
def bW(cap:Int):List al->List aF->Int->Int
 |a::ps,z::zs,t=>gG cap a.bD z t+bW cap ps zs t
 |_,_,_=>0
def ends:List aF->List Int
 | []=>[]
 |z::zs=>z.bj::z.fTo::ends zs
theorem mem_ends{l:List aF}{t:Int}:t∈ends l↔∃z∈l,t=z.bj∨t=z.fTo:=by
 induction l with
 |nil=>simp [ends]
 |cons z zs ih=>simp [ends,ih,or_assoc]
theorem cap_line{c a L R t:Int}(h1:L<=t)(h2:t<=R):(R-t)*min c (a-L)+(t-L)*min c (a-R)<=(R-L)*min c (a-t):=by
 have k1:(R-t)*min c (a-L)<=(R-t)*c:=Int.mul_le_mul_of_nonneg_left za za
 have k2:(t-L)*min c (a-R)<=(t-L)*c:=Int.mul_le_mul_of_nonneg_left za za
 have k3:(R-t)*min c (a-L)<=(R-t)*(a-L):=Int.mul_le_mul_of_nonneg_left za za
 have k4:(t-L)*min c (a-R)<=(t-L)*(a-R):=Int.mul_le_mul_of_nonneg_left za za
 rcases Int.le_total c (a-t)with h|h
 ·rw [Int.min_eq_left h]
  have:(R-t)*c+(t-L)*c=(R-L)*c:=by rw [<-Int.add_mul];congr 1;omega
  omega
 ·rw [Int.min_eq_right h]
  have:(R-t)*(a-L)+(t-L)*(a-R)=(R-L)*(a-t):=by
   simp only [Int.sub_mul,Int.mul_sub,Int.mul_comm]
   omega
  omega
theorem cost1_line{cap w:Int}{z:aF}(hc:0<=cap)(hw:0<=w)(hz:z.bj<=z.fTo){L R t:Int}(h1:L<=t)(h2:t<=R)(hf:z.bj<=L∨R<=z.bj)(ht:z.fTo<=L∨R<=z.fTo):
  (R-t)*gG cap w z L+(t-L)*gG cap w z R<=(R-L)*gG cap w z t:=by
 have key:(R-t)*min cap (res z L)+(t-L)*min cap (res z R)<=(R-L)*min cap (res z t):=by
  unfold res
  rcases hf with hf|hf
  ·rcases ht with ht|ht
   ·rw [show max 0 (max (L-z.fTo) (z.bj-L))=(-z.fTo)-(-L)by omega,show max 0 (max (R-z.fTo) (z.bj-R))=(-z.fTo)-(-R)by omega,show max 0 (max (t-z.fTo) (z.bj-t))=(-z.fTo)-(-t)by omega]
    have:=cap_line (c:=cap) (a:= -z.fTo) (L:= -R) (R:= -L) (t:= -t) za za
    rw [show-L- -t=t-L by omega,show-t- -R=R-t by omega,show-L- -R=R-L by omega]at this
    omega
   ·rw [show max 0 (max (L-z.fTo) (z.bj-L))=0 by omega,show max 0 (max (R-z.fTo) (z.bj-R))=0 by omega,show max 0 (max (t-z.fTo) (z.bj-t))=0 by omega]
    rw [Int.min_eq_right hc];simp
  ·rw [show max 0 (max (L-z.fTo) (z.bj-L))=z.bj-L by omega,show max 0 (max (R-z.fTo) (z.bj-R))=z.bj-R by omega,show max 0 (max (t-z.fTo) (z.bj-t))=z.bj-t by omega]
   exact cap_line h1 h2
 unfold gG
 have:=Int.mul_le_mul_of_nonneg_left key hw
 rw [Int.mul_add,Int.mul_left_comm w (R-t),Int.mul_left_comm w (t-L),Int.mul_left_comm w (R-L)]at this
 exact this
theorem costS_line{cap:Int}(hc:0<=cap){L R t:Int}(h1:L<=t)(h2:t<=R):∀(ps:List al)(zs:List aF),(∀a∈ps,0<=a.bD)->(∀z∈zs,z.bj<=z.fTo)->(∀e∈ends zs,e<=L∨R<=e)->
  (R-t)*bW cap ps zs L+(t-L)*bW cap ps zs R<=(R-L)*bW cap ps zs t
 |a::ps,z::zs,ha,hz,he=>by
  have k1:=cost1_line hc (ha a sm) (hz z sm) h1 h2 (he _ (by simp [ends])) (he _ (by simp [ends]))
  have k2:=costS_line hc h1 h2 ps zs (fun x hx=>ha x (by simp [hx])) (fun x hx=>hz x (by simp [hx])) (fun e h=>he e (by simp [ends,h]))
  unfold bW
  rw [Int.mul_add,Int.mul_add,Int.mul_add]
  omega
 | [],_,_,_,_=>by simp [bW]
 |_::_,[],_,_,_=>by simp [bW]
theorem costS_left{cap:Int}{L t:Int}(h1:t<=L):∀(ps:List al)(zs:List aF),(∀a∈ps,0<=a.bD)->(∀z∈zs,z.bj<=z.fTo)->(∀e∈ends zs,L<=e)->bW cap ps zs L<=bW cap ps zs t
 |a::ps,z::zs,ha,hz,he=>by
  have:=costS_left (cap:=cap) h1 ps zs (fun x hx=>ha x (by simp [hx])) (fun x hx=>hz x (by simp [hx])) (fun e h=>he e (by simp [ends,h]))
  have e1:=he z.bj (by simp [ends])
  have e2:=he z.fTo (by simp [ends])
  unfold bW
  have:gG cap a.bD z L<=gG cap a.bD z t:=Int.mul_le_mul_of_nonneg_left (by unfold res;omega) (ha a sm)
  omega
 | [],_,_,_,_=>by simp [bW]
 |_::_,[],_,_,_=>by simp [bW]
theorem costS_right{cap:Int}{L t:Int}(h1:L<=t):∀(ps:List al)(zs:List aF),(∀a∈ps,0<=a.bD)->(∀z∈zs,z.bj<=z.fTo)->(∀e∈ends zs,e<=L)->bW cap ps zs L<=bW cap ps zs t
 |a::ps,z::zs,ha,hz,he=>by
  have:=costS_right (cap:=cap) h1 ps zs (fun x hx=>ha x (by simp [hx])) (fun x hx=>hz x (by simp [hx])) (fun e h=>he e (by simp [ends,h]))
  have e1:=he z.bj (by simp [ends])
  have e2:=he z.fTo (by simp [ends])
  unfold bW
  have:gG cap a.bD z L<=gG cap a.bD z t:=Int.mul_le_mul_of_nonneg_left (by unfold res;omega) (ha a sm)
  omega
 | [],_,_,_,_=>by simp [bW]
 |_::_,[],_,_,_=>by simp [bW]
theorem least_end{cap:Int}(hc:0<=cap){ps:List al}{zs:List aF}(hn:zs≠ [])(ha:∀a∈ps,0<=a.bD)(hz:∀z∈zs,z.bj<=z.fTo)(t:Int):∃e∈ends zs,bW cap ps zs e<=bW cap ps zs t:=by
 have hne:ends zs≠ []:=by
  match zs,hn with
  |z::zs,_=>simp [ends]
 by_cases hA:(ends zs).filter (fun e=>decide (e<=t))=[]
 ·obtain⟨m,h1,h2⟩:=has_min hne
  have:t<=m:=by
   apply Classical.byContradiction
   intro h
   have:m∈(ends zs).filter (fun e=>decide (e<=t)):=List.mem_filter.2 ⟨h1,so⟩
   rw [hA]at this;simp at this
  exact⟨m,h1,costS_left this ps zs ha hz h2⟩
 by_cases hB:(ends zs).filter (fun e=>decide (t<=e))=[]
 ·obtain⟨m,h1,h2⟩:=has_max hne
  have:m<=t:=by
   apply Classical.byContradiction
   intro h
   have:m∈(ends zs).filter (fun e=>decide (t<=e)):=List.mem_filter.2 ⟨h1,so⟩
   rw [hB]at this;simp at this
  exact⟨m,h1,costS_right this ps zs ha hz h2⟩
 obtain⟨L,l1,l2⟩:=has_max hA
 obtain⟨R,r1,r2⟩:=has_min hB
 rw [List.mem_filter]at l1 r1
 have l3:L<=t:=by simpa using l1.2
 have r3:t<=R:=by simpa using r1.2
 have hl := costS_line hc l3 r3 ps zs ha hz (fun e he => by
  rcases Int.le_total e t with h|h
  ·exact .inl (l2 e (List.mem_filter.2 ⟨he,by simpa using h⟩))
  ·exact .inr (r2 e (List.mem_filter.2 ⟨he,by simpa using h⟩)))
 by_cases h1:bW cap ps zs L<=bW cap ps zs t
 ·exact⟨L,l1.1,h1⟩
 by_cases h2:bW cap ps zs R<=bW cap ps zs t
 ·exact⟨R,r1.1,h2⟩
 exfalso
 have hLt:L≠t:=fun h=>h1 (by rw [h];exact Int.le_refl _)
 have k1:(R-t)*(bW cap ps zs t+1)<=(R-t)*bW cap ps zs L:=Int.mul_le_mul_of_nonneg_left za za
 have k2:(t-L)*(bW cap ps zs t+1)<=(t-L)*bW cap ps zs R:=Int.mul_le_mul_of_nonneg_left za za
 have k3:(R-t)*(bW cap ps zs t+1)+(t-L)*(bW cap ps zs t+1)=(R-L)*bW cap ps zs t+(R-L):=by
  rw [<-Int.add_mul,show R-t+(t-L)=R-L by omega,Int.mul_add];omega
 omega
theorem costS_mono{cap:Int}(t:Int):∀(ps:List al)(zs ys:List aF),(∀a∈ps,0<=a.bD)->zs.length=ys.length->(∀(i:Nat)(h:i<zs.length)(h':i<ys.length),zs[i].bj<=ys[i].bj∧ys[i].fTo<=zs[i].fTo)->bW cap ps zs t<=bW cap ps ys t
 |a::ps,z::zs,y::ys,ha,hl,h=>by
  have k1:=costS_mono (cap:=cap) t ps zs ys (fun x hx=>ha x (by simp [hx])) (by simpa using hl) (fun i h1 h2=>h (i+1) (Nat.succ_lt_succ h1) (Nat.succ_lt_succ h2))
  have k2:=h 0 sm sm
  simp only [List.getElem_cons_zero]at k2
  unfold bW
  have:gG cap a.bD z t<=gG cap a.bD y t:=Int.mul_le_mul_of_nonneg_left (by unfold res;omega) (ha a sm)
  omega
 | [],_,_,_,_,_=>by simp [bW]
 |_::_,[],[],_,_,_=>by simp [bW]
 |_::_,[],_::_,_,hl,_=>by simp at hl
 |_::_,_::_,[],_,hl,_=>by simp at hl
end Go.Dw.Ed
set_option maxRecDepth 100000
set_option maxHeartbeats 4000000
namespace Go.Dw.Ed
open Go.Dw Go.Proofs
theorem search_at{t:aH}(ht:nC t)(d:Int)(hd:d<=t.bn*((t.aI.length:Int)-1)):Ok (ex (t.aC.length:Int) t d) (fun r=>(0<=r∧r<t.aC.length)∧d<=r*t.bn∧∀k,0<=k->k<r->k*t.bn<d):=by
 have hl:=ht.len;have hs:=ht.same;have hst:=ht.step
 unfold ex
 rw [Option.bind_fun_some]
 refine Ok.loop (fun s=>∃i j:Nat,s=((i:Int),(j:Int))∧i<t.aC.length∧i<=j∧j<=t.aC.length∧(j<t.aC.length->d<=(j:Int)*t.bn)∧∀k:Int,0<=k->k<i->k*t.bn<d) (fun s=>(s.2-s.1).toNat) ?_ ⟨0,t.aC.length,rfl,za,za,Nat.le_refl _,fun h=>za,fun k h0 h1=>za⟩
 rintro s ⟨i,j,rfl,i0,i1,i2,i3,i4⟩
 unfold iG
 dsimp only
 refine Ok.pL (fun hlt=>?_) (fun hge=>Ok.st ⟨⟨za,za⟩,?_,i4⟩)
 rotate_left
 ·obtain rfl:i=j:=by omega
  exact i3 i0
 have hh:=half_at (i+j) za
 rw [Int.natCast_add]at hh
 have hk1:(i+j) / 2<j:=by omega
 have hk2:i<=(i+j) / 2:=by omega
 rw [hh]
 generalize (i+j) / 2=k at*
 unfold fr
 have hb:0<=(k:Int)*t.bn∧(k:Int)*t.bn<=30*100:=⟨Int.mul_nonneg za za,Int.mul_le_mul za za za za⟩
 rw [w64 (n:=(k:Int)*t.bn) za za,zd]
 refine Ok.iteND (fun hlt=>?_) (fun hle=>Ok.nx ⟨i,k,rfl,i0,hk2,za,fun _=>hle,i4⟩ zc)
 rw [w64 za za]
 refine Ok.nx ⟨k+1,j,sm,?_,za,i2,i3,fun m h0 h1=>?_⟩ zc
 ·have h1:(k:Int)*t.bn<t.bn*((t.aI.length:Int)-1):=by omega
  rw [Int.mul_comm]at h1
  have:=Int.lt_of_mul_lt_mul_left h1 za
  omega
 ·have:m*t.bn<=(k:Int)*t.bn:=Int.mul_le_mul_of_nonneg_right za za
  omega
theorem between_at{t:aH}(ht:nC t):∀(a b:Int),0<=a->a<=b->b<=65535->Reach t b->∃x c u:Int,cn t a b=some (t.aI.getD (x.tdiv t.bn).toNat 0,t.aC.getD u.toNat 0,0)∧(0<=x∧x.tdiv t.bn<t.aI.length)∧(x*x<=a∧a<(x+1)*(x+1))∧(0<=c∧b<=c*c∧∀s,0<=s->b<=s*s->c<=s)∧(0<=u∧u<t.aC.length)∧c<=u*t.bn∧(∀k,0<=k->k<u->k*t.bn<c)∧c<=na t:=by
 have hl:=ht.len;have hs:=ht.same;have hst:=ht.step
 have hb:0<=t.bn*((t.aI.length:Int)-1)∧t.bn*((t.aI.length:Int)-1)<=100*30:=⟨Int.mul_nonneg za za,Int.mul_le_mul za za za za⟩
 intro a b ha hab hb' hr
 have main:Ok (cn t a b) (fun r=>∃x c u:Int,r=(t.aI.getD (x.tdiv t.bn).toNat 0,t.aC.getD u.toNat 0,0)∧(0<=x∧x.tdiv t.bn<t.aI.length)∧(x*x<=a∧a<(x+1)*(x+1))∧(0<=c∧b<=c*c∧∀s,0<=s->b<=s*s->c<=s)∧(0<=u∧u<t.aC.length)∧c<=u*t.bn∧(∀k,0<=k->k<u->k*t.bn<c)∧c<=na t):=by
  unfold cn
  rw [fO ht,zd,if_neg sm]
  refine Ok.pL (fun _=>za) (fun _=>Ok.pL (fun _=>za) (fun _=>?_))
  refine Ok.bind (ceil_ok b za hb') (fun c hc=>?_)
  obtain⟨hc0,hc1,hc2⟩:=hc
  have hR':c<=na t:=hc2 _ hb.1 hr
  unfold lu
  rw [zd,w64 (n:=(t.aI.length:Int)-1) za za,w64 za za]
  refine Ok.pL (fun h=>by unfold na at hR';omega) (fun h2=>?_)
  refine Ok.bind (search_at ht c za) (fun u hu=>?_)
  refine Ok.bind (floor_ok a za) (fun x hx=>?_)
  obtain⟨⟨x0,x1⟩,x2,x3⟩:=hx
  have x2:=x2 ha
  have hxc:x<=c:=by
   apply Classical.byContradiction
   intro h
   have:(c+1)*(c+1)<=x*x:=Int.mul_le_mul za za za za
   have h4:(c+1)*(c+1)=c*c+2*c+1:=by rw [Int.add_mul,Int.mul_add];omega
   omega
  refine Ok.bind (Ok.quo za) (fun q hq=>?_)
  have hq0:0<=x.tdiv t.bn:=Int.tdiv_nonneg x0 za
  have hq1:x.tdiv t.bn<=(t.aI.length:Int)-1:=by
   rw [Int.tdiv_eq_ediv_of_nonneg x0]
   exact Int.ediv_le_of_le_mul za (by rw [Int.mul_comm];omega)
  rw [w64 za za]at hq
  subst hq
  refine Ok.bind (Ok.get hq0 za) (fun p hp=>?_)
  refine Ok.bind (Ok.get hu.1.1 hu.1.2) (fun r hr'=>Ok.ret ⟨x,c,u,?_,⟨x0,za⟩,⟨x2,x3⟩,⟨hc0.1,hc1,hc2⟩,hu.1,hu.2.1,hu.2.2,hR'⟩)
  rw [List.getD_eq_getElem?_getD,List.getD_eq_getElem?_getD,hp.2,hr'.2];rfl
 obtain⟨r,e,x,c,u,hr,h⟩:=main
 exact⟨x,c,u,by rw [e,hr],h⟩
theorem between_le{t:aH}(ht:nC t){n f n' f':Int}(h0:0<=n)(h1:n<=n')(h2:n'<=f')(h3:f'<=f)(hf:f<=65535)(hR:Reach t f):
  ∃lo hi lo' hi',cn t n f=some (lo,hi,0)∧cn t n' f'=some (lo',hi',0)∧lo<=lo'∧hi'<=hi:=by
 have hl:=ht.len;have hs:=ht.same;have hst:=ht.step
 have hb:0<=t.bn*((t.aI.length:Int)-1)∧t.bn*((t.aI.length:Int)-1)<=100*30:=⟨Int.mul_nonneg za za,Int.mul_le_mul za za za za⟩
 have hR':Reach t f':=Int.le_trans h3 hR
 obtain⟨x,c,u,e,⟨x0,x1⟩,⟨x2,x3⟩,⟨c0,c1,c2⟩,⟨u0,u1⟩,u2,u3, -⟩:=between_at ht n f h0 za hf hR
 obtain⟨x',c',u',e',⟨y0,y1⟩,⟨y2,y3⟩,⟨d0,d1,d2⟩,⟨v0,v1⟩,v2,v3, -⟩:=between_at ht n' f' za h2 za hR'
 refine⟨_,_,_,_,e,e',?_,?_⟩
 ·have hx:x<=x':=by
   apply Classical.byContradiction
   intro h
   have:(x'+1)*(x'+1)<=x*x:=Int.mul_le_mul za za za za
   omega
  have hd:x.tdiv t.bn<=x'.tdiv t.bn:=by
   rw [Int.tdiv_eq_ediv_of_nonneg x0,Int.tdiv_eq_ediv_of_nonneg y0]
   exact Int.ediv_le_ediv za hx
  have k0:0<=x.tdiv t.bn:=Int.tdiv_nonneg x0 za
  have:=asc_le ht.low (i:=(x.tdiv t.bn).toNat) (j:=(x'.tdiv t.bn).toNat) za za
  rw [List.getD_eq_getElem?_getD,List.getD_eq_getElem?_getD,ze za,ze za]
  exact this
 ·have hc:c'<=c:=d2 _ c0 za
  have hu:u'<=u:=by
   apply Classical.byContradiction
   intro h
   have:=v3 u u0 za
   omega
  have:=asc_le ht.high (i:=u'.toNat) (j:=u.toNat) za za
  rw [List.getD_eq_getElem?_getD,List.getD_eq_getElem?_getD,ze za,ze za]
  exact this
theorem near_mono{r b:ah}(h:Sub r b)(p:aa):mO r p<=mO b p:=by
 obtain⟨h1,h2,h3⟩:=h
 have k:∀x l h l' h':Int,l'<=l->l<=h->h<=h'->ne x l' h'*ne x l' h'<=ne x l h*ne x l h:=fun x l h l' h' a b c=>sq_le (by unfold ne;omega) (by unfold ne;omega)
 have:=k p.fX _ _ _ _ h1.1 h1.2.1 h1.2.2
 have:=k p.fY _ _ _ _ h2.1 h2.2.1 h2.2.2
 have:=k p.fZ _ _ _ _ h3.1 h3.2.1 h3.2.2
 unfold mO;omega
theorem Sub.trans{a b c:ah}(h:Sub a b)(h':Sub b c):Sub a c:=by
 obtain⟨h1,h2,h3⟩:=h
 obtain⟨k1,k2,k3⟩:=h'
 exact⟨⟨za,za,za⟩,⟨za,za,za⟩,za,za,za⟩
noncomputable def zn (q:ag) (b:ah) (a:al):aF:=((dj q.bc b a).getD (⟨0,0⟩,0)).1
theorem zn_at{q:ag}(hq:PV q){b:ah}(h:Sub q.aK b){a:al}(ha:a∈q.aX):dj q.bc b a=some (zn q b a,0)∧dY (zn q b a):=by
 obtain⟨r,e,h1,h2⟩:=sub_zone hq h ha
 unfold zn
 rw [e]
 exact⟨by rw [<-h1];rfl,h2⟩
theorem zn_le{q:ag}(hq:PV q){b c:ah}(h:Sub q.aK b)(h':Sub b c){a:al}(ha:a∈q.aX):(zn q b a).bj<=(zn q c a).bj∧(zn q c a).fTo<=(zn q b a).fTo:=by
 obtain⟨hv,hr⟩:=hq.ph a ha
 have hb:=h.ok hq.box hq.reg
 have hc:=(h.trans h').ok hq.box hq.reg
 obtain⟨hp,p1,p2,p3,p4⟩:=hv
 have hva:ev a=some true:=by
  refine Ok.eq ?_
  unfold ev
  rw [ix hp,zd,if_pos rfl,if_pos (by simpa using p1),if_pos (by simpa using p2),if_pos (by simpa using p3),if_pos (by simp [p4])]
  exact Ok.ret (by simp [p4])
 obtain⟨n1,n2, -⟩:=o0 hb hp
 obtain⟨f1, -,f3⟩:=Far_at hb hp
 obtain⟨m1,m2, -⟩:=o0 hc hp
 obtain⟨g1, -,g3⟩:=Far_at hc hp
 obtain⟨lo,hi,lo',hi',e1,e2,l1,l2⟩:=between_le hq.tab n2 (near_mono h' a.aQ) (nW hc _) (far_mono h' a.aQ) za (Int.le_trans (far_mono h _) hr)
 have zb:∀{b:ah}(hb:fi b){lo hi:Int},ep b a.aQ=some (mO b a.aQ)->f9 b a.aQ=some (mD b a.aQ)->cn q.bc (mO b a.aQ) (mD b a.aQ)=some (lo,hi,0)->
   dj q.bc b a=some (⟨IntKind.wrap .i64 (a.aM-hi),IntKind.wrap .i64 (a.bv-lo)⟩,0):=by
  intro b hb lo hi h1 h2 h3
  unfold dj
  rw [fO hq.tab,zd,if_neg sm,dq hb,zd,if_neg sm,hva,zd,if_neg sm]
  unfold jx kw
  rw [fO hq.tab,zd,if_neg sm,dq hb,zd,if_neg sm,ix hp,zd,if_neg sm,h1,h2]
  simp only [zd]
  rw [h3];rfl
 have bb:Ok (cn q.bc (mO b a.aQ) (mD b a.aQ)) _:=mT hq.tab _ _ n2 (nW hb _) za
 have cc:Ok (cn q.bc (mO c a.aQ) (mD c a.aQ)) _:=mT hq.tab _ _ m2 (nW hc _) za
 obtain⟨r,e,hr1⟩:=bb
 obtain⟨r',e',hr2⟩:=cc
 rw [e1]at e;rw [e2]at e'
 cases e;cases e'
 have hr1:=hr1.2 rfl
 have hr2:=hr2.2 rfl
 have z1:zn q b a=⟨IntKind.wrap .i64 (a.aM-hi),IntKind.wrap .i64 (a.bv-lo)⟩:=by unfold zn;rw [zb hb n1 f1 e1];rfl
 have z2:zn q c a=⟨IntKind.wrap .i64 (a.aM-hi'),IntKind.wrap .i64 (a.bv-lo')⟩:=by unfold zn;rw [zb hc m1 g1 e2];rfl
 rw [z1,z2]
 simp only at hr1 hr2⊢
 rw [w64 (n:=a.aM-hi) za za,w64 (n:=a.aM-hi') za za,w64 (n:=a.bv-lo) za za,w64 (n:=a.bv-lo') za za]
 omega
theorem zones_at{q:ag}(hq:PV q){b:ah}(h:Sub q.aK b):e8 q b=some (q.aX.map (zn q b),0):=by
 have hl:=hq.len
 refine Ok.eq ?_
 unfold e8
 rw [mg hq,zd,if_neg sm,within_at hq.box hq.reg h,zd,if_neg sm]
 refine Ok.bind (P:=fun r=>r=(q.aX.map (zn q b),0)) ?_ (fun r hr=>by subst hr;exact Ok.ret rfl)
 unfold lq
 refine Ok.bind (Ok.mkC za za za za) (fun x hx=>?_)
 subst hx
 refine Ok.bind (P:=fun o=>o= .inl (q.aX.map (zn q b))) (Ok.loop (fun s:Int×List aF=>(0<=s.1∧s.1<=q.aX.length)∧s.2=(q.aX.take s.1.toNat).map (zn q b)) (fun s=>((q.aX.length:Int)-s.1).toNat) ?_ ⟨⟨sm,sm⟩,sm⟩) (fun o ho=>by subst ho;exact Ok.ret rfl)
 rintro⟨s2,s3⟩ ⟨⟨i0,i1⟩,i2⟩
 simp only at i0 i1 i2
 subst i2
 unfold kf
 refine Ok.pL (fun hlt=>?_) (fun _=>Ok.st ?_)
 rotate_left
 ·rw [List.take_of_length_le za]
 refine Ok.bind (Ok.get za za) (fun a ha=>?_)
 rw [(zn_at hq h ha.1).1,zd,if_neg sm]
 have ht:(List.map (zn q b) (List.take s2.toNat q.aX)).length<=64:=by rw [List.length_map,List.length_take];omega
 refine Ok.bind (Ok.app (by simp only [List.length_cons,List.length_nil];omega)) (fun y hy=>?_)
 subst hy
 rw [w64 za za]
 refine Ok.nx ⟨⟨zc,zc⟩,?_⟩ zc
 simp only
 rw [show(s2+1).toNat=s2.toNat+1 by omega,List.take_add_one,ha.2]
 simp
theorem res_at{z:aF}(hz:dY z){t:Int}(ht: -5000<=t∧t<=18014398509481984):eR z t=some (res z t):=by
 obtain⟨z1,z2,z3⟩:=hz
 unfold eR
 rw [w64 (n:=t-z.fTo) za za,w64 (n:=z.bj-t) za za]
 congr 1
 unfold res
 split<;>split<;>omega
theorem mV{cap:Int}(hc:0<=cap){t:Int}:∀(ps:List al)(zs:List aF),(∀a∈ps,0<=a.bD)->0<=bW cap ps zs t
 |a::ps,z::zs,ha=>by
  have k1:=mV hc (t:=t) ps zs (fun x hx=>ha x (by simp [hx]))
  have k2:0<=gG cap a.bD z t:=Int.mul_nonneg (ha a sm) (by unfold res;omega)
  unfold bW;omega
 | [],_,_=>by simp [bW]
 |_::_,[],_=>by simp [bW]
theorem cost_at{q:ag}(hq:PV q){l:List aF}(hll:l.length=q.aX.length)(hz:∀z∈l,dY z){t:Int}(ht: -5000<=t∧t<=18014398509481984):gT q l t=some (bW q.cU q.aX l t):=by
 have hl:=hq.len;have hc:=hq.cap
 refine Ok.eq ?_
 unfold gT
 refine Ok.bind (P:=fun o=>o=bW q.cU q.aX l t) (Ok.loop (fun s:Int×Int=>(0<=s.2∧s.2<=q.aX.length)∧(0<=s.1∧s.1<=1000*s.2)∧s.1+bW q.cU (q.aX.drop s.2.toNat) (l.drop s.2.toNat) t=bW q.cU q.aX l t) (fun s=>((q.aX.length:Int)-s.2).toNat) ?_ ⟨⟨sm,sm⟩,⟨sm,sm⟩,sm⟩) (fun o ho=>by subst ho;exact Ok.ret rfl)
 rintro⟨s1,s2⟩ ⟨⟨i0,i1⟩,⟨i2,i3⟩,i4⟩
 simp only at i0 i1 i2 i3 i4
 unfold kR
 refine Ok.pL (fun hlt=>?_) (fun hge=>Ok.st ?_)
 rotate_left
 ·rw [List.drop_eq_nil_of_le za]at i4
  simp [bW]at i4;exact i4
 refine Ok.bind (Ok.get za za) (fun a ha=>?_)
 refine Ok.pL (fun hlz=>?_) (fun h=>za)
 refine Ok.bind (Ok.get za za) (fun z hz'=>?_)
 rw [res_at (hz z hz'.1) ht,zd,w64 (n:=s2+1) za za]
 have hw:a.bD=1:=(hq.ph a ha.1).1.weight
 have e1:(if res z t<q.cU then res z t else q.cU)=min q.cU (res z t):=by split<;>omega
 have hr:0<=res z t:=by unfold res;omega
 have e2:gG q.cU a.bD z t=min q.cU (res z t):=by unfold gG;rw [hw,Int.one_mul]
 rw [e1,hw,Int.one_mul,w64 (n:=min q.cU (res z t)) za za,w64 za za]
 refine Ok.nx ⟨⟨zc,zc⟩,⟨zc,zc⟩,?_⟩ zc
 simp only
 rw [show(s2+1).toNat=s2.toNat+1 by omega]
 obtain⟨j1,ea⟩:=List.getElem?_eq_some_iff.1 ha.2
 obtain⟨j2,ez⟩:=List.getElem?_eq_some_iff.1 hz'.2
 rw [List.drop_eq_getElem_cons j1,List.drop_eq_getElem_cons j2,ea,ez]at i4
 have i5:s1+(gG q.cU a.bD z t+bW q.cU (q.aX.drop (s2.toNat+1)) (l.drop (s2.toNat+1)) t)=bW q.cU q.aX l t:=i4
 rw [e2]at i5
 omega
structure BestE(q:ag)(l:List aF)(r:Int×Int):Prop where
 mem:r.1∈ends l
 cost:r.2=bW q.cU q.aX l r.1
 least:∀e∈ends l,r.2<=bW q.cU q.aX l e
theorem ends_snoc{l:List aF}{z:aF}:ends (l++[z])=ends l++[z.bj,z.fTo]:=by
 induction l with
 |nil=>rfl
 |cons y ys ih=>simp [ends,ih]
theorem ends_len{l:List aF}:(ends l).length=2*l.length:=by
 induction l with
 |nil=>rfl
 |cons y ys ih=>simp [ends,ih];omega
theorem best_at{q:ag}(hq:PV q){l:List aF}(hll:l.length=q.aX.length)(hz:∀z∈l,dY z):Ok (gR q l) (BestE q l):=by
 have hl:=hq.len
 have hend:∀e∈ends l, -5000<=e∧e<=18014398509481984:=by
  intro e he
  obtain⟨z,h1,h2⟩:=mem_ends.1 he
  obtain⟨z1,z2,z3⟩:=hz z h1
  omega
 unfold gR
 rw [w64 (n:=2*(l.length:Int)) za za]
 refine Ok.bind (Ok.mkC za za za za) (fun x hx=>?_)
 subst hx
 refine Ok.bind (P:=fun o:List Int=>o=ends l) (Ok.loop (fun s:Int×List Int=>(0<=s.1∧s.1<=l.length)∧s.2=ends (l.take s.1.toNat)) (fun s=>((l.length:Int)-s.1).toNat) ?_ ⟨⟨sm,sm⟩,by simp [ends]⟩) (fun o ho=>?_)
 ·rintro⟨s2,s3⟩ ⟨⟨i0,i1⟩,i2⟩
  simp only at i0 i1 i2
  subst i2
  unfold lJ
  refine Ok.pL (fun hlt=>?_) (fun _=>Ok.st (by rw [List.take_of_length_le za]))
  refine Ok.bind (Ok.get za za) (fun z hz=>?_)
  have ht:(ends (List.take s2.toNat l)).length<=128:=by rw [ends_len,List.length_take];omega
  refine Ok.bind (Ok.app (by simp only [List.length_cons,List.length_nil];omega)) (fun y hy=>?_)
  subst hy
  rw [w64 za za]
  refine Ok.nx ⟨⟨zc,zc⟩,?_⟩ zc
  simp only
  rw [show(s2+1).toNat=s2.toNat+1 by omega,List.take_add_one,hz.2,Option.toList_some,ends_snoc]
 ·subst ho
  have hn:(ends l).length=2*l.length:=ends_len
  refine Ok.rF (fun h=>za) (fun _=>?_)
  refine Ok.bind (Ok.rz za za) (fun _ _=>Ok.bind (Ok.get za za) (fun x14 g14=>?_))
  refine Ok.bind (Ok.rz za za) (fun _ _=>Ok.bind (Ok.get za za) (fun x17 g17=>?_))
  have e17:x17=x14:=Option.some.inj (g17.2.symm.trans g14.2)
  subst e17
  rw [cost_at hq hll hz (hend _ g17.1),zd]
  refine Ok.bind (Ok.sub za za za) (fun _ _=>?_)
  refine Ok.bind (Ok.lenv za za) (fun n hn'=>?_)
  have hn2:n=2*(l.length:Int)-1:=by simp at hn';omega
  have hx0:∀(i:Nat)e,(ends l)[i]? =some e->i<1->e=x17:=by
   intro i e h hi
   have:i=0:=by omega
   subst this
   exact Option.some.inj (h.symm.trans g17.2)
  refine Ok.bind (P:=fun o=>BestE q l o) (Ok.loop (fun s:Int×Int×Int=>(0<=s.2.2∧s.2.2<=n)∧s.1∈ends l∧s.2.1=bW q.cU q.aX l s.1∧∀(i:Nat)e,(ends l)[i]? =some e->i<s.2.2.toNat+1->s.2.1<=bW q.cU q.aX l e) (fun s=>(n-s.2.2).toNat) ?_ ⟨⟨sm,zc⟩,g17.1,rfl,fun i e h hi=>by rw [hx0 i e h (by simpa using hi)];exact Int.le_refl _⟩) (fun o ho=>Ok.ret ho)
  rintro⟨s1,s2,s3⟩ ⟨⟨i0,i1⟩,i2,i3,i4⟩
  simp only at i0 i1 i2 i3 i4
  unfold kQ
  refine Ok.pL (fun hlt=>?_) (fun hge=>Ok.st ⟨i2,i3,fun e he=>?_⟩)
  rotate_left
  ·obtain⟨i,hi,rfl⟩:=List.getElem_of_mem he
   exact i4 i _ (ze hi) za
  refine Ok.bind (Ok.inv za za za) (fun _ _=>?_)
  refine Ok.bind (Ok.get za za) (fun x29 g29=>?_)
  rw [cost_at hq hll hz (hend _ g29.1),zd]
  rw [w64 za za]
  have hidx:((0+(1:Int).toNat+s3.toNat:Nat):Int).toNat=s3.toNat+1:=by simp;omega
  rw [hidx]at g29
  have A : ∀ (u v : Int), u ∈ ends l → v = bW q.cU q.aX l u → v ≤ s2 → v ≤ bW q.cU q.aX l x29 → Ok (some (.next (u, v, s3 + 1)) : Option (py (Int × Int × Int) (Int × Int))) (Ok.S (fun s : Int × Int × Int => (0 ≤ s.2.2 ∧ s.2.2 ≤ n) ∧ s.1 ∈ ends l ∧ s.2.1 = bW q.cU q.aX l s.1 ∧ ∀ (i : Nat) e, (ends l)[i]? = some e → i < s.2.2.toNat + 1 → s.2.1 ≤ bW q.cU q.aX l e) (fun s => (n - s.2.2).toNat) (BestE q l) (s1, s2, s3)) := fun u v h1 h2 h3 h4 => Ok.nx ⟨⟨zc, zc⟩, h1, h2, fun i e he hi => by
   simp only at hi⊢
   rw [show(s3+1).toNat=s3.toNat+1 by omega]at hi
   rcases Nat.lt_or_ge i (s3.toNat+1)with h|h
   ·exact Int.le_trans h3 (i4 i e he h)
   ·have:i=s3.toNat+1:=by omega
    subst this
    rw [g29.2]at he
    cases he;exact h4⟩ zc
  refine Ok.pL (fun h=>A _ _ g29.1 rfl za (Int.le_refl _)) (fun h=>Ok.rF (fun h'=>Ok.pL (fun _=>A _ _ g29.1 rfl za (Int.le_refl _)) (fun _=>A _ _ i2 i3 (Int.le_refl _) za)) (fun _=>A _ _ i2 i3 (Int.le_refl _) za))
noncomputable def mis (q:ag) (p:aa):Int:=((gz q p).getD (0,0,0)).2.1
noncomputable def bnd (q:ag) (b:ah):Int:=((ed q b).getD (0,0)).1
theorem bnd_at{q:ag}(hq:PV q){b:ah}(h:Sub q.aK b):ed q b=some (bnd q b,0)∧∃t,BestE q (q.aX.map (zn q b)) (t,bnd q b):=by
 obtain⟨r,e,hr⟩:=best_at hq (l:=q.aX.map (zn q b)) sm (fun z hz=>by obtain⟨a,ha,rfl⟩:=List.mem_map.1 hz;exact(zn_at hq h ha).2)
 have:ed q b=some (r.2,0):=by unfold ed;rw [zones_at hq h,zd,if_neg sm,e];rfl
 unfold bnd
 rw [this]
 exact⟨rfl,r.1,hr⟩
theorem oQ{q:ag}(hq:PV q){p:aa}(h:Sub q.aK ⟨p,p⟩):∃t,gz q p=some (t,mis q p,0)∧BestE q (q.aX.map (zn q ⟨p,p⟩)) (t,mis q p):=by
 obtain⟨r,e,hr⟩:=best_at hq (l:=q.aX.map (zn q ⟨p,p⟩)) sm (fun z hz=>by obtain⟨a,ha,rfl⟩:=List.mem_map.1 hz;exact(zn_at hq h ha).2)
 have:gz q p=some (r.1,r.2,0):=by unfold gz;rw [zones_at hq h,zd,if_neg sm,e];rfl
 unfold mis
 rw [this]
 exact⟨_,rfl,hr⟩
theorem bnd_le{q:ag}(hq:PV q){b:ah}(h:Sub q.aK b){p:aa}(hp:Sub b ⟨p,p⟩):bnd q b<=mis q p:=by
 obtain⟨-,t,h1,h2,h3⟩:=bnd_at hq h
 obtain⟨t', -,k1,k2,k3⟩:=oQ hq (h.trans hp)
 simp only at h1 h2 h3 k1 k2 k3
 have hl:=hq.len;have hc:=hq.cap
 have hw:∀a∈q.aX,0<=a.bD:=fun a ha=>by have:=(hq.ph a ha).1.weight;omega
 obtain⟨e,he,hle⟩:=least_end (cap:=q.cU) za (ps:=q.aX) (zs:=q.aX.map (zn q b)) (by intro h;simp at h;simp [h]at hl) hw (fun z hz=>by obtain⟨a,ha,rfl⟩:=List.mem_map.1 hz;exact(zn_at hq h ha).2.2.1) t'
 have hm := costS_mono (cap := q.cU) t' q.aX (q.aX.map (zn q b)) (q.aX.map (zn q ⟨p, p⟩)) hw sm (fun i h1 h2 => by
  simp only [List.getElem_map]
  exact zn_le hq h hp (List.getElem_mem _))
 have:=h3 e he
 omega
end Go.Dw.Ed
set_option maxRecDepth 100000
set_option maxHeartbeats 4000000
namespace Go.Dw.Ed
open Go.Dw Go.Proofs
def leI(a b:Item):Prop:=a.ce<b.ce∨(a.ce=b.ce∧a.f8<=b.f8)
instance (a b:Item):Decidable (leI a b):=by unfold leI;exact inferInstance
theorem pq(a:Item):leI a a:=by unfold leI;omega
theorem oc{a b c:Item}(h:leI a b)(h':leI b c):leI a c:=by unfold leI at*;omega
theorem leI_total{a b:Item}(h:¬leI a b):leI b a:=by unfold leI at*;omega
def it0:Item:=⟨⟨⟨0,0,0⟩,⟨0,0,0⟩⟩,0,0⟩
def at_(d:List Item)(i:Nat):Item:=d.getD i it0
theorem ml{d:List Item}{i:Nat}{x:Item}(h:d[i]? =some x):at_ d i=x:=by
 unfold at_;rw [List.getD_eq_getElem?_getD,h];rfl
theorem cmp_or2(a b:Int):cA [a,b]=some (if a≠0 then a else b):=by
 unfold cA
 rw [show((0:Int))=((0:Nat):Int)from rfl,Sd.or_go (l:=[a,b]) (n:=0) (r:=[a,b]) sm za sm]
 by_cases h1:a=0
 ·by_cases h2:b=0
  ·simp [h1,h2]
  ·simp [h1,h2]
 ·simp [h1]
theorem less_at{d:List Item}{i j:Int}(hi:0<=i∧i<d.length)(hj:0<=j∧j<d.length):gY d i j=some (decide (¬leI (at_ d j.toNat) (at_ d i.toNat))):=by
 refine Ok.eq ?_
 unfold gY
 refine Ok.bind (Ok.get hi.1 hi.2) (fun a ga=>?_)
 refine Ok.bind (Ok.get hj.1 hj.2) (fun b gb=>?_)
 rw [Sd.iS,zd]
 refine Ok.bind (Ok.get hi.1 hi.2) (fun a' ga'=>?_)
 refine Ok.bind (Ok.get hj.1 hj.2) (fun b' gb'=>?_)
 rw [Sd.iS,zd]
 obtain rfl:a'=a:=Option.some.inj (ga'.2.symm.trans ga.2)
 obtain rfl:b'=b:=Option.some.inj (gb'.2.symm.trans gb.2)
 rw [cmp_or2,ml ga.2,ml gb.2]
 refine Ok.ret ?_
 rw [decide_eq_decide]
 unfold leI qU
 split<;>split<;>(try split)<;>(try split)<;>omega
theorem swap_at{d:List Item}{i j:Int}(hi:0<=i∧i<d.length)(hj:0<=j∧j<d.length):
  Ok (gZ i j d) (fun r=>r.Perm d∧∀k:Nat,at_ r k=if k=j.toNat then at_ d i.toNat else if k=i.toNat then at_ d j.toNat else at_ d k):=by
 unfold gZ
 refine Ok.bind (Ok.rz hj.1 hj.2) (fun _ _=>Ok.bind (Ok.get hj.1 hj.2) (fun a ga=>?_))
 refine Ok.bind (Ok.rz hi.1 hi.2) (fun _ _=>Ok.bind (Ok.get hi.1 hi.2) (fun b gb=>?_))
 refine Ok.bind (Ok.rz hi.1 hi.2) (fun _ _=>Ok.bind (Ok.set hi.1 hi.2) (fun e he=>?_))
 subst he
 refine Ok.bind (Ok.rz hj.1 (by simpa using hj.2)) (fun _ _=>Ok.bind (Ok.set hj.1 (by simpa using hj.2)) (fun e he=>?_))
 subst he
 have h1:i.toNat<d.length:=by omega
 have h2:j.toNat<d.length:=by omega
 have ea:=ml ga.2
 have eb:=ml gb.2
 obtain⟨_,rfl⟩:=List.getElem?_eq_some_iff.1 ga.2
 obtain⟨_,rfl⟩:=List.getElem?_eq_some_iff.1 gb.2
 refine Ok.ret ⟨List.set_set_perm h1 h2,fun k=>?_⟩
 split
 ·rename_i hk;subst hk
  rw [eb];exact ml (by rw [List.getElem?_set_self (by simpa using h2)])
 ·rename_i hk
  split
  ·rename_i hk';subst hk'
   rw [ea];exact ml (by rw [List.getElem?_set_ne (Ne.symm hk),List.getElem?_set_self h1])
  ·rename_i hk'
   unfold at_
   rw [List.getD_eq_getElem?_getD,List.getD_eq_getElem?_getD,List.getElem?_set_ne (Ne.symm hk),List.getElem?_set_ne (Ne.symm hk')]
def oF(d:List Item)(n:Nat):Prop:=∀i,0<i->i<n->leI (at_ d ((i-1) / 2)) (at_ d i)
theorem oF.root{d:List Item}{n:Nat}(h:oF d n):∀i,i<n->leI (at_ d 0) (at_ d i):=by
 intro i
 induction i using Nat.strongRecOn with
 |_ i ih=>
  intro hi
  by_cases h0:i=0
  ·subst h0;exact pq _
  ·exact oc (ih ((i-1) / 2) za za) (h i za hi)
theorem up_heap{q:ag}{a b:Int}{f:Bool}{l:aj}{d:List Item}{j:Int}(hj:0<=j∧j<d.length)(hd:d.length<=1000)
  (h1:∀i,0<i->i<d.length->i≠j.toNat->leI (at_ d ((i-1) / 2)) (at_ d i)) (h2:∀c,0<j.toNat->c<d.length->0<c->(c-1) / 2=j.toNat->leI (at_ d ((j.toNat-1) / 2)) (at_ d c)):
  Ok (mX j q a b f l d) (fun r=>r.Perm d∧oF r d.length):=by
 unfold mX
 refine Ok.bind (P:=fun o:List Item=>o.Perm d∧oF o d.length) (Ok.loop (fun s:Int×List Item=>(0<=s.1∧s.1<d.length)∧s.2.Perm d∧(∀i,0<i->i<d.length->i≠s.1.toNat->leI (at_ s.2 ((i-1) / 2)) (at_ s.2 i))∧(∀c,0<s.1.toNat->c<d.length->0<c->(c-1) / 2=s.1.toNat->leI (at_ s.2 ((s.1.toNat-1) / 2)) (at_ s.2 c))) (fun s=>s.1.toNat) ?_ ⟨hj,List.Perm.refl _,h1,h2⟩) (fun o ho=>Ok.ret ho)
 rintro⟨s1,s2⟩ ⟨⟨i0,i1⟩,i2,i3,i4⟩
 simp only at i0 i1 i2 i3 i4
 have hlen:s2.length=d.length:=i2.length_eq
 unfold l5
 dsimp only
 rw [w64 (n:=s1-1) za za]
 have e:ru .i64 (s1-1) 2=some (if s1=0 then 0 else(s1-1) / 2):=by
  unfold ru
  rw [if_neg za]
  split
  ·rename_i h;subst h;rfl
  ·rw [Int.tdiv_eq_ediv_of_nonneg za,w64 za za]
 rw [e,zd]
 refine Ok.rF (fun he=>?_) (fun hne=>?_)
 ·rw [zd]
  refine Ok.st ⟨i2,fun i h0 hi=>i3 i h0 hi ?_⟩
  split at he<;>omega
 have hp:s1≠0:=fun h=>hne (by rw [if_pos h,h])
 rw [if_neg hp]
 have hpn:((s1-1) / 2).toNat=(s1.toNat-1) / 2:=by omega
 rw [less_at za za,zd]
 refine Ok.vg (fun hf=>?_) (fun hlt=>?_)
 ·rw [zd]
  refine Ok.st ⟨i2,fun i h0 hi=>?_⟩
  by_cases h:i=s1.toNat
  ·subst h
   rw [<-hpn]
   simpa using hf
  ·exact i3 i h0 hi h
 ·have hlt:¬leI (at_ s2 ((s1-1) / 2).toNat) (at_ s2 s1.toNat):=by simpa using hlt
  have hle:=leI_total hlt
  rw [hpn]at hle
  refine Ok.bind (swap_at za za) (fun y⟨y1,y2⟩=>Ok.nx ⟨⟨zc,zc⟩,y1.trans i2,?_,?_⟩ zc)
  ·simp only
   intro i h0 hi hne'
   rw [hpn]at hne'
   rw [y2,y2,hpn]
   by_cases hij:i=s1.toNat
   ·subst hij
    rw [if_pos rfl,if_neg za,if_pos rfl];exact hle
   ·rw [if_neg hij,if_neg hne']
    by_cases hc:(i-1) / 2=s1.toNat
    ·rw [if_pos hc]
     exact i4 i za hi h0 hc
    ·rw [if_neg hc]
     by_cases hc':(i-1) / 2=(s1.toNat-1) / 2
     ·rw [if_pos hc']
      have:=i3 i h0 hi hij
      rw [hc']at this
      exact oc hle this
     ·rw [if_neg hc'];exact i3 i h0 hi hij
  ·simp only
   intro c h0 hc hc0 hcp
   rw [hpn]at h0 hcp⊢
   rw [y2,y2,if_neg za,if_neg (by rw [hpn];omega),hpn]
   have k1:=i3 ((s1.toNat-1) / 2) za za za
   by_cases hcs:c=s1.toNat
   ·rw [if_pos hcs];exact k1
   ·rw [if_neg hcs,if_neg za]
    have k2:=i3 c hc0 hc hcs
    rw [hcp]at k2
    exact oc k1 k2
theorem down_heap{q:ag}{a b:Int}{f:Bool}{l:aj}{d:List Item}{n:Int}(hn:0<=n∧n<d.length)(hd:d.length<=1000)(h1:∀c,0<c->c<n.toNat->(c-1) / 2≠0->leI (at_ d ((c-1) / 2)) (at_ d c)):
  Ok (lA 0 n q a b f l d) (fun r=>(r.2.Perm d∧at_ r.2 n.toNat=at_ d n.toNat)∧oF r.2 n.toNat):=by
 unfold lA
 let I:Int×List Item->Prop:=fun s=>(0<=s.1∧s.1<=n)∧(s.2.Perm d∧at_ s.2 n.toNat=at_ d n.toNat)∧(∀c,0<c->c<n.toNat->(c-1) / 2≠s.1.toNat->leI (at_ s.2 ((c-1) / 2)) (at_ s.2 c))∧(∀c,0<s.1.toNat->0<c->c<n.toNat->(c-1) / 2=s.1.toNat->leI (at_ s.2 ((s.1.toNat-1) / 2)) (at_ s.2 c))
 let Q:Int×List Item->Prop:=fun o=>(o.2.Perm d∧at_ o.2 n.toNat=at_ d n.toNat)∧oF o.2 n.toNat
 refine Ok.bind (P:=Q) (Ok.loop I (fun s=>(n-s.1).toNat) ?_ ⟨⟨sm,hn.1⟩,⟨List.Perm.refl _,rfl⟩,fun c h0 hc hp=>h1 c h0 hc hp,fun c h0=>by simp at h0⟩) (fun o ho=>Ok.ret ho)
 rintro⟨s1,s2⟩ ⟨⟨i0,i1⟩,⟨i2,i3⟩,i4,i5⟩
 simp only at i0 i1 i2 i3 i4 i5
 have hlen:s2.length=d.length:=i2.length_eq
 unfold mm
 dsimp only
 rw [w64 (n:=2*s1) za za,w64 (n:=2*s1+1) za za,w64 (n:=2*s1+1+1) za za]
 refine Ok.pL (fun hge=>Ok.st ⟨⟨i2,i3⟩,fun c h0 hc=>i4 c h0 hc za⟩) (fun hlt1=>Ok.pL (fun _=>za) (fun _=>?_))
 have K:∀j:Int,(j=2*s1+1∨j=2*s1+2)->j<n->(∀c,0<c->c<n.toNat->(c-1) / 2=s1.toNat->leI (at_ s2 j.toNat) (at_ s2 c))->Ok (er s2 s1 j) (Ok.S I (fun s=>(n-s.1).toNat) Q (s1,s2)):=fun j hj hjn hmin=>by
  unfold er
  rw [less_at za za,zd]
  refine Ok.vg (fun hf=>Ok.st ⟨⟨i2,i3⟩,fun c h0 hc=>?_⟩) (fun hlt=>?_)
  ·have hf:leI (at_ s2 s1.toNat) (at_ s2 j.toNat):=by simpa using hf
   by_cases hcp:(c-1) / 2=s1.toNat
   ·rw [hcp];exact oc hf (hmin c h0 hc hcp)
   ·exact i4 c h0 hc hcp
  ·have hlt:¬leI (at_ s2 s1.toNat) (at_ s2 j.toNat):=by simpa using hlt
   have hle:=leI_total hlt
   refine Ok.bind (swap_at za za) (fun y⟨y1,y2⟩=>Ok.nx ⟨⟨zc,zc⟩,⟨y1.trans i2,?_⟩,?_,?_⟩ zc)
   ·simp only
    rw [y2,if_neg za,if_neg za];exact i3
   ·simp only
    intro c h0 hc hcp
    rw [y2,y2]
    by_cases hcj:c=j.toNat
    ·rw [if_pos hcj,if_neg za,if_pos za];exact hle
    rw [if_neg hcj,if_neg hcp]
    by_cases hcp':(c-1) / 2=s1.toNat
    ·rw [if_pos hcp',if_neg za];exact hmin c h0 hc hcp'
    rw [if_neg hcp']
    by_cases hcs:c=s1.toNat
    ·rw [if_pos hcs]
     have:=i5 j.toNat za za za za
     rw [hcs];exact this
    ·rw [if_neg hcs];exact i4 c h0 hc hcp'
   ·simp only
    intro c h0 hc0 hc hcp
    rw [y2,y2,if_neg za,if_pos za,if_neg za,if_neg za]
    have:=i4 c hc0 hc za
    rw [hcp]at this;exact this
 have two:∀c,0<c->(c-1) / 2=s1.toNat->c=(2*s1+1).toNat∨c=(2*s1+1+1).toNat:=fun c h0 hc=>by omega
 refine Ok.pL (fun h2 => ?_) (fun h2 => K _ (.inl rfl) za (fun c h0 hc hcp => by
  rcases two c h0 hcp with h|h
  ·rw [h];exact pq _
  ·omega))
 rw [less_at za za,zd]
 refine Ok.yJ (fun hlt=>?_) (fun hf=>?_)
 ·have hlt:¬leI (at_ s2 (2*s1+1).toNat) (at_ s2 (2*s1+1+1).toNat):=by simpa using hlt
  exact K _ (.inr za) za (fun c h0 hc hcp => by
   rcases two c h0 hcp with h|h
   ·rw [h];exact leI_total hlt
   ·rw [h];exact pq _)
 ·have hf:leI (at_ s2 (2*s1+1).toNat) (at_ s2 (2*s1+1+1).toNat):=by simpa using hf
  exact K _ (.inl rfl) za (fun c h0 hc hcp => by
   rcases two c h0 hcp with h|h
   ·rw [h];exact pq _
   ·rw [h];exact hf)
theorem at_take{d:List Item}{n i:Nat}(h:i<n):at_ (d.take n) i=at_ d i:=by
 unfold at_
 rw [List.getD_eq_getElem?_getD,List.getD_eq_getElem?_getD,List.getElem?_take,if_pos h]
theorem pop_heap{q:ag}{a b:Int}{f:Bool}{l:aj}{x:Item}{d:List Item}(hd:(x::d).length<=1000)(hh:oF (x::d) (d.length+1)):Ok (mF q a b f l (x::d)) (fun r=>r.2.Perm d∧oF r.2 d.length):=by
 have hlen:((x::d).length:Int)=d.length+1:=by simp
 simp only [List.length_cons]at hd
 unfold mF gA
 rw [zd]
 rw [hlen,w64 (n:=(d.length:Int)+1-1) za za]
 refine Ok.bind (swap_at za za) (fun y⟨p1,p2⟩=>?_)
 have hy:y.length=d.length+1:=by have:=p1.length_eq;simpa using this
 have hn:((d.length:Int)+1-1).toNat=d.length:=by omega
 refine Ok.bind (down_heap za za (fun c h0 hc hp=>?_)) (fun z⟨⟨z1,z2⟩,z3⟩=>?_)
 ·rw [hn]at hc
  rw [p2,p2,hn,if_neg za,if_neg (by simpa using hp),if_neg za,if_neg so]
  exact hh c h0 za
 have hz:z.2.length=d.length+1:=by rw [z1.length_eq,hy]
 unfold oe
 rw [hz,w64 (n:=((d.length+1:Nat):Int)-1) za za]
 refine Ok.bind (P:=fun r:Item×List Item=>r.2.Perm d∧oF r.2 d.length) ?_ (fun r hr=>Ok.ret hr)
 refine Ok.bind (Ok.rz za za) (fun _ _=>Ok.bind (Ok.get za za) (fun w _=>?_))
 refine Ok.bind (Ok.sub za za za) (fun _ _=>Ok.ret ?_)
 simp only
 rw [show(((d.length+1:Nat):Int)-1).toNat=d.length by omega]
 rw [hn]at z2 z3
 have e:at_ z.2 d.length=x:=by
  rw [z2,p2,hn,if_pos rfl];rfl
 have hh':d.length<z.2.length:=by omega
 have e:z.2[d.length]=x:=by rw [<-ml (ze hh')];exact e
 have h3:z.2=z.2.take d.length++[x]:=by
  conv=>lhs;rw [<-List.take_append_drop d.length z.2]
  rw [List.drop_eq_getElem_cons hh',e,List.drop_of_length_le za]
 have h4:(z.2.take d.length++[x]).Perm (x::d):=by rw [<-h3];exact z1.trans p1
 have h5:(x::z.2.take d.length).Perm (x::d):=(List.perm_append_comm (l₁:=[x])).trans h4
 refine⟨(List.perm_cons x).1 h5,fun i h0 hi=>?_⟩
 rw [at_take za,at_take hi]
 exact z3 i h0 hi
theorem at_snoc{d:List Item}{x:Item}{i:Nat}(h:i<d.length):at_ (d++[x]) i=at_ d i:=by
 unfold at_
 rw [List.getD_eq_getElem?_getD,List.getD_eq_getElem?_getD,List.getElem?_append_left h]
theorem push_heap{q:ag}{a b:Int}{f:Bool}{l:aj}{x:Item}{d:List Item}(hd:d.length<=500)(hh:oF d d.length):Ok (kc x q a b f l d) (fun r=>r.Perm (x::d)∧oF r (d.length+1)):=by
 unfold kc l8 gA
 refine Ok.bind (P:=fun r=>r=d++[x]) (Ok.bind (Ok.app (by simp only [List.length_cons,List.length_nil];omega)) (fun r hr=>Ok.ret hr)) (fun y hy=>?_)
 subst hy
 rw [zd]
 have hl:((d++[x]).length:Int)=d.length+1:=by simp
 have hln:(d++[x]).length=d.length+1:=by simp
 rw [hl,w64 za za]
 refine Ok.bind (up_heap za so (fun i h0 hi hne=>?_) (fun c h0 hc hc0 hcp=>?_)) (fun r hr=>Ok.ret ⟨hr.1.trans (List.perm_append_comm (l₂:=[x])),by rw [<-hln];exact hr.2⟩)
 ·have:i<d.length:=by omega
  rw [at_snoc za,at_snoc this]
  exact hh i h0 this
 ·omega
theorem push1_heap{q:ag}{a b:Int}{f:Bool}{l:aj}{x:Item}:Ok (lz x q a b f l) (fun r=>r.Perm [x]∧oF r 1):=by
 unfold lz m8 gA
 refine Ok.bind (P:=fun r=>r=[x]) (Ok.bind (Ok.app sm) (fun r hr=>Ok.ret hr)) (fun y hy=>?_)
 subst hy
 rw [zd]
 rw [w64 sm sm]
 exact Ok.bind (up_ok sm sm) (fun r hr=>Ok.ret ⟨hr,fun i h0 hi=>za⟩)
end Go.Dw.Ed
set_option maxRecDepth 100000
set_option maxHeartbeats 4000000
namespace Go.Dw.Ed
open Go.Dw Go.Proofs
abbrev In(b:ah)(p:aa):Prop:=Sub b ⟨p,p⟩
theorem center_at{r b:ah}(hr:fi r)(hp:ek 20 r.aI)(h:Sub r b):Ok (eQ b) (fun p=>In b p∧(pts b<2->∀x,In b x->x=p)):=by
 have hb:=h.ok hr hp
 obtain⟨⟨l1,l2,l3⟩,h1,h2,h3⟩:=lj hb
 obtain⟨-,s1,s2,s3⟩:=id hb
 obtain⟨x,y,z⟩:=h
 unfold eQ bq bu
 rw [dq hb,zd,if_neg sm,zd,zd]
 simp only
 rw [kP za,zd,kP za,zd,kP za,zd]
 refine Ok.ret ⟨⟨zc,zc,zc⟩,fun hn p hin=>?_⟩
 have one:∀{a b c:Int},1<=a->1<=b->1<=c->a*b*c<2->a=1∧b=1∧c=1:=by
  intro a b c ha hb hc h
  have k1:1<=a*b:=by have:=Int.mul_le_mul ha hb za (by omega:(0:Int)<=a);omega
  have k2:a*b<=a*b*c:=by have:=Int.mul_le_mul_of_nonneg_left hc (by omega:0<=a*b);omega
  have k3:c<=a*b*c:=by have:=Int.mul_le_mul_of_nonneg_right k1 (by omega:0<=c);omega
  have k4:a<=a*b:=by have:=Int.mul_le_mul_of_nonneg_left hb (by omega:0<=a);omega
  have k5:b<=a*b:=by have:=Int.mul_le_mul_of_nonneg_right ha (by omega:0<=b);omega
  omega
 obtain⟨o1,o2,o3⟩:=one (a:=b.aC.fX-b.aI.fX+1) (b:=b.aC.fY-b.aI.fY+1) (c:=b.aC.fZ-b.aI.fZ+1) za za za hn
 obtain⟨p1,p2,p3⟩:=p
 obtain⟨i1,i2,i3⟩:=hin
 simp only at i1 i2 i3
 congr 1<;>omega
theorem split_cover{r b:ah}(hr:fi r)(hp:ek 20 r.aI)(h:Sub r b):Ok (eD b) (fun s=>(s.2.2=true->(Sub r s.1∧Sub r s.2.1∧pts s.1+pts s.2.1=pts b)∧∀p,In b p->In s.1 p∨In s.2.1 p)∧(s.2.2=false->pts b<2)):=by
 have h0:=yY hr hp h
 have hb:=h.ok hr hp
 obtain⟨⟨l1,l2,l3⟩,h1,h2,h3⟩:=lj hb
 have hpt:=points_at hb
 obtain⟨-,s1,s2,s3⟩:=id hb
 obtain⟨x,y,z⟩:=h
 suffices hs:Ok (eD b) (fun s=>(s.2.2=true->∀p,In b p->In s.1 p∨In s.2.1 p)∧(s.2.2=false->pts b<2))by
  obtain⟨s,e,k⟩:=hs
  obtain⟨s',e',k'⟩:=h0
  rw [e]at e';cases e'
  exact⟨s,e,fun ht=>⟨k' ht,k.1 ht⟩,k.2⟩
 unfold eD bq bu
 rw [hpt,zd]
 refine Ok.pL (fun hlt=>Ok.ret ⟨sm,fun _=>hlt⟩) (fun hn=>?_)
 have hbig:=one_side (x:=b.aC.fX-b.aI.fX+1) (y:=b.aC.fY-b.aI.fY+1) (z:=b.aC.fZ-b.aI.fZ+1) za za za (by unfold pts at hn;omega)
 simp only [zd]
 rw [w64 (n:=b.aC.fX-b.aI.fX) za za,w64 (n:=b.aC.fY-b.aI.fY) za za,w64 (n:=b.aC.fZ-b.aI.fZ) za za]
 have cX:2<=b.aC.fX-b.aI.fX+1->Ok ((bN b.aI.fX b.aC.fX).bind fun x17=>some (ah.mk b.aI (aa.mk x17 b.aC.fY b.aC.fZ),ah.mk (aa.mk (IntKind.wrap .i64 (x17+(1:Int))) b.aI.fY b.aI.fZ) b.aC,true)) (fun s:ah×ah×Bool=>(s.2.2=true->∀p,In b p->In s.1 p∨In s.2.1 p)∧(s.2.2=false->pts b<2)):=fun h2=>by
  rw [kP za,zd,w64 za za]
  refine Ok.ret ⟨fun _ p⟨i1,i2,i3⟩=>?_,sm⟩
  simp only at i1 i2 i3
  rcases Int.lt_or_le (b.aI.fX+(b.aC.fX-b.aI.fX) / 2) p.fX with h|h
  ·right;exact⟨zc,zc,zc⟩
  ·left;exact⟨zc,zc,zc⟩
 have cY:2<=b.aC.fY-b.aI.fY+1->Ok ((bN b.aI.fY b.aC.fY).bind fun x10=>some (ah.mk b.aI (aa.mk b.aC.fX x10 b.aC.fZ),ah.mk (aa.mk b.aI.fX (IntKind.wrap .i64 (x10+(1:Int))) b.aI.fZ) b.aC,true)) (fun s:ah×ah×Bool=>(s.2.2=true->∀p,In b p->In s.1 p∨In s.2.1 p)∧(s.2.2=false->pts b<2)):=fun h2=>by
  rw [kP za,zd,w64 za za]
  refine Ok.ret ⟨fun _ p⟨i1,i2,i3⟩=>?_,sm⟩
  simp only at i1 i2 i3
  rcases Int.lt_or_le (b.aI.fY+(b.aC.fY-b.aI.fY) / 2) p.fY with h|h
  ·right;exact⟨zc,zc,zc⟩
  ·left;exact⟨zc,zc,zc⟩
 have cZ:2<=b.aC.fZ-b.aI.fZ+1->Ok ((bN b.aI.fZ b.aC.fZ).bind fun x7=>some (ah.mk b.aI (aa.mk b.aC.fX b.aC.fY x7),ah.mk (aa.mk b.aI.fX b.aI.fY (IntKind.wrap .i64 (x7+(1:Int)))) b.aC,true)) (fun s:ah×ah×Bool=>(s.2.2=true->∀p,In b p->In s.1 p∨In s.2.1 p)∧(s.2.2=false->pts b<2)):=fun h2=>by
  rw [kP za,zd,w64 za za]
  refine Ok.ret ⟨fun _ p⟨i1,i2,i3⟩=>?_,sm⟩
  simp only at i1 i2 i3
  rcases Int.lt_or_le (b.aI.fZ+(b.aC.fZ-b.aI.fZ) / 2) p.fZ with h|h
  ·right;exact⟨zc,zc,zc⟩
  ·left;exact⟨zc,zc,zc⟩
 exact Ok.pL (fun _=>Ok.pL (fun _=>cZ za) (fun _=>cY za)) (fun _=>Ok.pL (fun _=>cZ za) (fun _=>cX za))
structure Op(q:ag)(d:List Item):Prop where
 sub:kW q.aK d
 bound:∀x∈d,x.ce=bnd q x.jd
 heap:oF d d.length
structure Bst(q:ag)(l:aj):Prop where
 inn:In q.aK l.aU
 val:gz q l.aU=some (l.a7,l.bi,0)
def Cover(q:ag)(f:Bool)(l:aj)(d:List Item):Prop:=∀p,In q.aK p->(∃x∈d,In x.jd p)∨(f=true∧l.bi<=mis q p)
theorem bst_mis{q:ag}(hq:PV q){l:aj}(h:Bst q l):l.bi=mis q l.aU:=by
 obtain⟨t,e, -⟩:=oQ hq h.inn
 rw [h.val]at e
 exact(Prod.mk.inj (Prod.mk.inj (Option.some.inj e)).2).1
theorem add_at{q:ag}(hq:PV q){b:ah}(hb:Sub q.aK b){n k:Int}{f:Bool}{l:aj}{d:List Item}(hd:d.length<=500)(ho:Op q d):Ok (hX b q n k f l d) (fun r=>r.1=0∧Op q r.2.2∧∃x:Item,x.jd=b∧r.2.2.Perm (x::d)):=by
 unfold hX hY
 rw [(bnd_at hq hb).1,zd]
 refine Ok.rF (fun _=>?_) (fun h=>(h rfl).elim)
 refine Ok.bind (push_heap hd ho.heap) (fun r⟨r1,r2⟩=>Ok.ret ⟨rfl,⟨fun x hx=>?_,fun x hx=>?_,?_⟩,_,rfl,r1⟩)
 ·rcases List.mem_cons.1 (r1.mem_iff.1 hx)with rfl|h
  ·exact hb
  ·exact ho.sub x h
 ·rcases List.mem_cons.1 (r1.mem_iff.1 hx)with rfl|h
  ·rfl
  ·exact ho.bound x h
 ·have:r.length=d.length+1:=by rw [r1.length_eq];rfl
  show oF r r.length
  rw [this];exact r2
theorem add1_at{q:ag}(hq:PV q){b:ah}(hb:Sub q.aK b){n k:Int}{f:Bool}{l:aj}:Ok (kk b q n k f l) (fun r=>r.1=0∧Op q r.2.1∧∃x:Item,x.jd=b∧r.2.1.Perm [x]):=by
 unfold kk iP
 rw [(bnd_at hq hb).1,zd]
 refine Ok.rF (fun _=>?_) (fun h=>(h rfl).elim)
 refine Ok.bind push1_heap (fun r⟨r1,r2⟩=>Ok.ret ⟨rfl,⟨fun x hx=>?_,fun x hx=>?_,?_⟩,_,rfl,r1⟩)
 ·rw [List.mem_singleton.1 (r1.mem_iff.1 hx)];exact hb
 ·rw [List.mem_singleton.1 (r1.mem_iff.1 hx)]
 ·have:r.length=1:=by rw [r1.length_eq];rfl
  show oF r r.length
  rw [this];exact r2
theorem look_at{q:ag}(hq:PV q){b:ah}(hb:Sub q.aK b){n k:Int}{f:Bool}{l:aj}{d:List Item}(hf:f=true->Bst q l):
  Ok (jp b q n k f l d) (fun r=>r.1=0∧r.2.1=true∧Bst q r.2.2∧(f=true->r.2.2.bi<=l.bi)∧(pts b<2->∀p,In b p->r.2.2.bi<=mis q p)):=by
 unfold jp
 refine Ok.bind (center_at hq.box hq.reg hb) (fun p⟨hp,hone⟩=>?_)
 obtain⟨t,e, -⟩:=oQ hq (hb.trans hp)
 have e1:∀(g:pts b<2)x,In b x->mis q p=mis q x:=fun g x hx=>by rw [hone g x hx]
 rw [e,zd]
 refine Ok.qP (fun h=>(h rfl).elim) (fun _=>?_)
 have hg:Bst q (aj.mk p t (mis q p) 0 (ah.mk (aa.mk 0 0 0) (aa.mk 0 0 0))):=⟨hb.trans hp,e⟩
 refine Ok.vg (fun hff=>Ok.ret ⟨rfl,rfl,hg,fun h=>by rw [h]at hff;simp at hff,fun g x hx=>by rw [e1 g x hx];exact Int.le_refl _⟩) (fun hft=>?_)
 refine Ok.pL (fun hlt=>Ok.ret ⟨rfl,rfl,hg,fun _=>by simp only at hlt⊢;omega,fun g x hx=>by rw [e1 g x hx];exact Int.le_refl _⟩) (fun hge=>?_)
 have nZ:l.bi<=mis q p:=by simp only at hge;omega
 refine Ok.rF (fun heq=>?_) (fun _=>Ok.ret ⟨rfl,hft,hf hft,fun _=>Int.le_refl _,fun g x hx=>by rw [<-e1 g x hx];exact nZ⟩)
 exact Ok.bind (compare_ok _ _) (fun c _=>Ok.pL (fun _=>Ok.ret ⟨rfl,rfl,hg,fun _=>by simp only at heq⊢;omega,fun g x hx=>by rw [e1 g x hx];exact Int.le_refl _⟩) (fun _=>Ok.ret ⟨rfl,hft,hf hft,fun _=>Int.le_refl _,fun g x hx=>by rw [<-e1 g x hx];exact nZ⟩))
theorem ended_at{t:Int}{q:ag}{n k:Int}{f:Bool}{l:aj}{d:List Item}(hs:∀x∈d,0<=x.ce∧x.ce<=1000000)(hl:f=true->0<=l.bi∧l.bi<=1000000):
  Ok (iy t q n k f l d) (fun r=>(r=false->d≠ [])∧(r=true->d=[]∨f=true∧l.bi-(at_ d 0).ce<=t)):=by
 unfold iy
 refine Ok.rF (fun h=>Ok.ret ⟨fun h=>by simp at h,fun _=>.inl (List.length_eq_zero_iff.1 za)⟩) (fun h=>?_)
 have hd:d≠ []:=fun e=>h (by rw [e];rfl)
 have:=List.length_pos_iff.2 hd
 refine Ok.yJ (fun hf=>?_) (fun _=>Ok.ret ⟨fun _=>hd,fun h=>by simp at h⟩)
 refine Ok.bind (Ok.rz za za) (fun _ _=>Ok.bind (Ok.get za za) (fun x hx=>Ok.ret ⟨fun _=>hd,fun h=>.inr ⟨hf,?_⟩⟩))
 have h1:=hs x hx.1
 have h2:=hl hf
 have e:at_ d 0=x:=ml hx.2
 rw [w64 za za]at h
 rw [e];simpa using h
theorem bnd_range{q:ag}(hq:PV q){b:ah}(h:Sub q.aK b):0<=bnd q b∧bnd q b<=1000000:=by
 obtain⟨-,t,h1,h2, -⟩:=bnd_at hq h
 simp only at h1 h2
 have hl:=hq.len;have hc:=hq.cap
 have up:∀(ps:List al)(zs:List aF),(∀a∈ps,a.bD=1)->bW q.cU ps zs t<=1000*ps.length:=by
  intro ps
  induction ps with
  |nil=>intro zs _;simp [bW]
  |cons a ps ih=>
   intro zs hw
   cases zs with
   |nil=>simp [bW];omega
   |cons z zs=>
    have k:=ih zs (fun x hx=>hw x (by simp [hx]))
    show gG q.cU a.bD z t+bW q.cU ps zs t<=_
    have:gG q.cU a.bD z t<=1000:=by unfold gG;rw [hw a sm,Int.one_mul];omega
    simp only [List.length_cons];omega
 have:=up q.aX (q.aX.map (zn q b)) (fun a ha=>(hq.ph a ha).1.weight)
 have:=mV (cap:=q.cU) za (t:=t) q.aX (q.aX.map (zn q b)) (fun a ha=>by have:=(hq.ph a ha).1.weight;omega)
 omega
theorem mis_bnd{q:ag}(hq:PV q){p:aa}(h:In q.aK p):mis q p=bnd q ⟨p,p⟩:=by
 obtain⟨-,t,h1,h2,h3⟩:=bnd_at hq h
 obtain⟨t', -,k1,k2,k3⟩:=oQ hq h
 have:=h3 _ k1
 have:=k3 _ h1
 simp only at*
 omega
theorem mis_range{q:ag}(hq:PV q){p:aa}(h:In q.aK p):0<=mis q p∧mis q p<=1000000:=by
 rw [mis_bnd hq h];exact bnd_range hq h
theorem step_at{q:ag}(hq:PV q){n k:Int}{f:Bool}{l:aj}{d:List Item}(hd:d≠ [])(ho:Op q d)(hk:0<=k∧k+cnt d<=300)(hf:f=true->Bst q l)(hc:Cover q f l d):
  Ok (jq q n k f l d) (fun r=>r.1=0∧r.2.2.1=k+1∧r.2.2.2.1=true∧Bst q r.2.2.2.2.1∧Op q r.2.2.2.2.2∧Cover q true r.2.2.2.2.1 r.2.2.2.2.2∧k+1+cnt r.2.2.2.2.2<=k+cnt d):=by
 match d,hd with
 |x::d,_=>
  have hlen:=cnt_len hq ho.sub
  have hx:=ho.sub x sm
  have ho':kW q.aK d:=fun y hy=>ho.sub y (List.mem_cons_of_mem _ hy)
  have hpx:=pts_in (hx.ok hq.box hq.reg)
  simp only [List.length_cons]at hlen
  unfold jq
  refine Ok.rF (fun h=>za) (fun _=>?_)
  refine Ok.bind (Ok.rz za sm) (fun _ _=>?_)
  rw [show pH (x::d) (0:Int)=some x from rfl,zd]
  refine Ok.bind (pop_heap (by simp only [List.length_cons];omega) (by simpa using ho.heap)) (fun y⟨hy,hyh⟩=>?_)
  have hyl:y.2.length=d.length:=hy.length_eq
  have hyo:Op q y.2:=⟨ho'.perm hy,fun w hw=>ho.bound w (List.mem_cons_of_mem _ (hy.mem_iff.1 hw)),by rw [hyl];exact hyh⟩
  have hyc:cnt y.2=cnt d:=kF hy
  have hcx:cnt (x::d)=(2*pts x.jd-1)+cnt d:=rfl
  rw [w64 za za]
  refine Ok.bind (look_at hq hx hf) (fun z⟨z1,z2,z3,z4,z5⟩=>?_)
  refine Ok.qP (fun h=>(h z1).elim) (fun _=>?_)
  have cov:∀p,In q.aK p->(∃w∈y.2,In w.jd p)∨z.2.2.bi<=mis q p∨In x.jd p:=fun p hp=>by
   rcases hc p hp with⟨w,hw,hwp⟩|⟨h1,h2⟩
   ·rcases List.mem_cons.1 hw with rfl|hw
    ·exact .inr (.inr hwp)
    ·exact .inl ⟨w,hy.mem_iff.2 hw,hwp⟩
   ·exact .inr (.inl (Int.le_trans (z4 h1) h2))
  refine Ok.bind (split_cover hq.box hq.reg hx) (fun s⟨hs,hsn⟩=>?_)
  refine Ok.vg (fun hsf=>Ok.ret ⟨rfl,rfl,z2,z3,hyo,fun p hp=>?_,zc⟩) (fun hst=>?_)
  ·rcases cov p hp with h|h|h
   ·exact .inl h
   ·exact .inr ⟨rfl,h⟩
   ·exact .inr ⟨rfl,z5 (hsn hsf) p h⟩
  obtain⟨⟨s1,s2,s3⟩,s4⟩:=hs hst
  refine Ok.bind (add_at hq s1 za hyo) (fun u⟨u1,uo,a,ua,up⟩=>?_)
  refine Ok.qP (fun h=>(h u1).elim) (fun _=>?_)
  have hul:u.2.2.length=d.length+1:=by rw [up.length_eq];simp [hyl]
  refine Ok.bind (add_at hq s2 za uo) (fun v⟨v1,vo,b,vb,vp⟩=>Ok.ret ⟨v1,rfl,z2,z3,vo,fun p hp=>?_,?_⟩)
  ·simp only
   rcases cov p hp with⟨w,hw,hwp⟩|h|h
   ·exact .inl ⟨w,vp.mem_iff.2 (List.mem_cons_of_mem _ (up.mem_iff.2 (List.mem_cons_of_mem _ hw))),hwp⟩
   ·exact .inr ⟨trivial,h⟩
   ·rcases s4 p h with h|h
    ·exact .inl ⟨a,vp.mem_iff.2 (List.mem_cons_of_mem _ (up.mem_iff.2 sm)),by rw [ua];exact h⟩
    ·exact .inl ⟨b,vp.mem_iff.2 sm,by rw [vb];exact h⟩
  ·simp only
   rw [kF vp,hcx]
   simp only [cnt]
   rw [kF up]
   simp only [cnt]
   rw [ua,vb];omega
structure Fin(q:ag)(t:Int)(l:aj)(d:List Item):Prop where
 best:Bst q l
 opens:Op q d
 len:d.length<=300
 cover:Cover q true l d
 near:d=[]∨l.bi-(at_ d 0).ce<=t
theorem run_at{q:ag}(hq:PV q){t:Int}(ht:0<=t):Ok (gP q t) (fun r=>r.2=0∧∃s,r.1=some s∧Fin q t s.bQ s.jD):=by
 have hpr:=pts_in hq.box
 unfold gP
 rw [mg hq,zd,if_neg sm,if_neg so]
 refine Ok.bind (add1_at hq (Sub.refl hq.box)) (fun x⟨x1,xo,a,xa,xp⟩=>?_)
 refine Ok.qP (fun h=>(h x1).elim) (fun _=>?_)
 have hxc:cnt x.2.1=2*pts q.aK-1:=by rw [kF xp];simp only [cnt];rw [xa];omega
 refine Ok.bind (P:=fun o=>∃y,o= .inl y∧Fin q t y.2.2.2.2 y.1) (Ok.loop (fun s:Int×Int×Bool×aj×List Item=>(0<=s.2.1∧s.2.1+cnt s.2.2.2.2<=300)∧Op q s.2.2.2.2∧(s.2.2.1=true->Bst q s.2.2.2.1)∧(s.2.2.2.2=[]->s.2.2.1=true)∧Cover q s.2.2.1 s.2.2.2.1 s.2.2.2.2) (fun s=>(300-s.2.1).toNat) ?_ ⟨⟨sm,zc⟩,xo,sm,fun h=>?_,fun p hp=>.inl ⟨a,xp.mem_iff.2 sm,by rw [xa];exact hp⟩⟩) (fun o⟨y,ho,h1⟩=>by subst ho;exact Ok.ret ⟨rfl,_,rfl,h1⟩)
 ·rintro⟨s6,s7,s8,s9,s10⟩ ⟨⟨i0,i1⟩,i2,i3,i4,i5⟩
  simp only at i0 i1 i2 i3 i4 i5
  have hl:=cnt_len hq i2.sub
  unfold jH
  dsimp only
  refine Ok.bind (ended_at (fun x hx=>by rw [i2.bound x hx];exact bnd_range hq (i2.sub x hx)) (fun hf=>by rw [bst_mis hq (i3 hf)];exact mis_range hq (i3 hf).inn)) (fun e he=>?_)
  refine Ok.vg (fun hef=>?_) (fun het=>Ok.st ⟨_,rfl,?_⟩)
  ·have hne:=he.1 hef
   have:=List.length_pos_iff.2 hne
   refine Ok.bind (step_at hq hne i2 ⟨i0,i1⟩ i3 i5) (fun r⟨r1,r2,r3,r4,r5,r6,r7⟩=>?_)
   refine Ok.qP (fun h=>(h r1).elim) (fun _=>?_)
   exact Ok.nx ⟨⟨zc,zc⟩,r5,fun _=>r4,fun _=>r3,by simp only;rw [r3];exact r6⟩ zc
  ·have hft:s8=true:=by
    rcases he.2 het with h|h
    ·exact i4 h
    ·exact h.1
   subst hft
   refine⟨i3 rfl,i2,zc,i5,?_⟩
   rcases he.2 het with h|h
   ·exact .inl h
   ·exact .inr h.2
 ·simp only at h
  rw [h]at hxc
  simp only [cnt]at hxc;omega
structure Least(q:ag)(t:Int)(l:aj):Prop where
 inn:In q.aK l.aU
 val:gz q l.aU=some (l.a7,l.bi,0)
 lower:∀p,In q.aK p->l.eN<=mis q p
 near:∀p,In q.aK p->l.bi-t<=mis q p
theorem locate_least{q:ag}(hq:PV q){t:Int}(ht:0<=t):Ok (c7 q t) (fun r=>r.2=0∧Least q t r.1):=by
 unfold c7
 refine Ok.bind (run_at hq ht) (fun x⟨x1,s,xs,⟨⟨g1,g2⟩,ho,hs,hc,hn⟩⟩=>?_)
 rw [xs]
 show Ok (if(x.2 != (0:Int))=true then _ else _) _
 refine Ok.qP (fun h=>(h x1).elim) (fun _=>?_)
 refine Ok.bind (P:=fun o:Int×ah=>o.1<=s.bQ.bi∧∀x∈s.jD,o.1<=x.ce) (Ok.loop (fun u:Int×Int×ah=>(0<=u.1∧u.1<=s.jD.length)∧Sub q.aK u.2.2∧u.2.1<=s.bQ.bi∧∀(i:Nat)x,s.jD[i]? =some x->i<u.1.toNat->u.2.1<=x.ce) (fun u=>((s.jD.length:Int)-u.1).toNat) ?_ ⟨⟨sm,sm⟩,g1,Int.le_refl _,fun i x _ hi=>by simp at hi⟩) (fun o⟨o1,o2⟩=>Ok.ret ⟨rfl,g1,g2,fun p hp=>?_,fun p hp=>?_⟩)
 ·rintro⟨u1,u2,u3⟩ ⟨⟨i0,i1⟩,i2,i3,i4⟩
  simp only at i0 i1 i2 i3 i4
  unfold jG
  refine Ok.pL (fun hlt=>?_) (fun _=>Ok.st ⟨i3,fun x hx=>?_⟩)
  rotate_left
  ·obtain⟨i,hi,rfl⟩:=List.getElem_of_mem hx
   exact i4 i _ (ze hi) za
  refine Ok.bind (Ok.get za za) (fun y hy=>?_)
  rw [w64 za za]
  have nxt:∀(i:Nat)x,s.jD[i]? =some x->i<(u1+1).toNat->(if y.ce<u2 then y.ce else u2)<=x.ce:=fun i x hx hi=>by
   rcases Nat.lt_or_ge i u1.toNat with h|h
   ·have:=i4 i x hx h
    split<;>omega
   ·have:i=u1.toNat:=by omega
    subst this
    rw [hy.2]at hx;cases hx
    split<;>omega
  have low:(if y.ce<u2 then y.ce else u2)<=s.bQ.bi:=by split<;>omega
  refine Ok.pL (fun _=>?_) (fun _=>Ok.nx ⟨⟨zc,zc⟩,i2,low,nxt⟩ zc)
  exact Ok.bind (hull_ok hq.box hq.reg i2 (ho.sub y hy.1)) (fun z hz=>Ok.nx ⟨⟨zc,zc⟩,hz,low,nxt⟩ zc)
 ·simp only
  rcases hc p hp with⟨w,hw,hwp⟩|⟨-,h⟩
  ·have:=o2 w hw
   rw [ho.bound w hw]at this
   exact Int.le_trans this (bnd_le hq (ho.sub w hw) hwp)
  ·omega
 ·simp only
  rcases hc p hp with⟨w,hw,hwp⟩|⟨-,h⟩
  ·have k1:=bnd_le hq (ho.sub w hw) hwp
   rw [<-ho.bound w hw]at k1
   obtain⟨i,hi,rfl⟩:=List.getElem_of_mem hw
   have k2:=ho.heap.root i hi
   rw [ml (ze hi)]at k2
   rcases hn with hn|hn
   ·rw [hn]at hi;simp at hi
   ·have:(at_ s.jD 0).ce<=(s.jD[i]).ce:=by unfold leI at k2;omega
    omega
  ·omega
end Go.Dw.Ed
namespace Go.Dw
def Lnk(nx bk:List Int):List Nat->Prop
 |a::b::r=>(nx[a]? =some (b:Int)∧bk[b]? =some (a:Int))∧Lnk nx bk (b::r)
 |_=>True
theorem Lnk.congr{nx bk nx' bk':List Int}:∀{l:List Nat},Lnk nx bk l->(∀x∈l.dropLast,nx'[x]? =nx[x]?)->(∀x∈l.tail,bk'[x]? =bk[x]?)->Lnk nx' bk' l
 |a::b::r,⟨⟨h1,h2⟩,h3⟩,hn,hb=>by
  refine⟨⟨by rw [hn a (by simp [List.dropLast]),h1],by rw [hb b sm,h2]⟩,h3.congr (fun x hx=>hn x ?_) (fun x hx=>hb x ?_)⟩
  ·simp only [List.dropLast];exact List.mem_cons_of_mem _ hx
  ·simp only [List.tail_cons]at hx⊢;exact List.mem_cons_of_mem _ hx
 | [],_,_,_=>trivial
 | [_],_,_,_=>trivial
theorem oG{nx bk:List Int}{a:Nat}{m:List Nat}:∀{l:List Nat},Lnk nx bk (l++a::m)↔Lnk nx bk (l++[a])∧Lnk nx bk (a::m)
 | []=>by simp [Lnk]
 | [b]=>by simp [Lnk]
 |b::c::l=>by
  have:=oG (nx:=nx) (bk:=bk) (a:=a) (m:=m) (l:=c::l)
  simp only [List.cons_append,Lnk]at this⊢
  rw [this]
  simp only [and_assoc]
theorem has_last{l:List Nat}(h:l≠ []):∃m p,l=m++[p]:=⟨l.dropLast,l.getLast h,(List.dropLast_concat_getLast h).symm⟩
theorem Lnk.remove{nx bk:List Int}{e i:Nat}{A B:List Nat}(h:Lnk nx bk (e::(A++i::B)++[e]))(hd:(e::(A++i::B)).Nodup):
  ∃p q:Nat,bk[i]? =some (p:Int)∧nx[i]? =some (q:Int)∧p∈e::(A++B)∧q∈e::(A++B)∧Lnk (nx.set p (q:Int)) (bk.set q (p:Int)) (e::(A++B)++[e]):=by
 obtain⟨m,p,hp⟩:=has_last (l:=e::A) sm
 obtain⟨q,n,hq⟩:∃q n,B++[e]=q::n:=by
  cases B with
  |nil=>exact⟨e,[],rfl⟩
  |cons b B=>exact⟨b,B++[e],rfl⟩
 have e1:e::(A++i::B)++[e]=(m++[p])++i::q::n:=by rw [<-hp, <-hq];simp
 have h':Lnk nx bk (m++p::i::q::n):=by rw [e1]at h;simpa using h
 obtain⟨h1,h2⟩:=oG.1 h'
 obtain⟨⟨a1,a2⟩,⟨a3,a4⟩,h3⟩:=h2
 have hpm:p∈e::A:=by rw [hp];simp
 have hqm:q∈B++[e]:=by rw [hq];simp
 rw [List.nodup_cons,List.nodup_append]at hd
 obtain⟨d1,dA,dB,dAB⟩:=hd
 rw [List.nodup_cons]at dB
 have hmp:(m++[p]).Nodup:=by
  rw [<-hp,List.nodup_cons]
  exact⟨fun hh=>d1 (List.mem_append.2 (.inl hh)),dA⟩
 have hpn:p∉m:=fun hh=>by
  rw [List.nodup_append]at hmp
  exact hmp.2.2 p hh p sm rfl
 have e2:e::(A++B)++[e]=m++p::q::n:=by
  have:e::(A++B)++[e]=(e::A)++(B++[e]):=by simp
  rw [this,hp,hq];simp
 refine⟨p,q,a2,a3,?_,?_,?_⟩
 ·rcases List.mem_cons.1 hpm with h|h
  ·exact List.mem_cons.2 (.inl h)
  ·exact List.mem_cons.2 (.inr (List.mem_append.2 (.inl h)))
 ·rcases List.mem_append.1 hqm with h|h
  ·exact List.mem_cons.2 (.inr (List.mem_append.2 (.inr h)))
  ·exact List.mem_cons.2 (.inl (List.mem_singleton.1 h))
 rw [e2,oG]
 have hlp:p<nx.length:=(List.getElem?_eq_some_iff.1 a1).1
 have hlq:q<bk.length:=(List.getElem?_eq_some_iff.1 a4).1
 have memA:∀x,x∈(m++[p]).tail->x∈A:=by
  intro x hx;rw [<-hp]at hx;exact hx
 refine⟨h1.congr (fun x hx=>?_) (fun x hx=>?_),?_⟩
 ·rw [List.dropLast_concat]at hx
  exact List.getElem?_set_ne fun hh=>hpn (by rw [hh];exact hx)
 ·have hxA:=memA x hx
  refine List.getElem?_set_ne fun hh=>?_
  rw [hh]at hqm
  rcases List.mem_append.1 hqm with h|h
  ·exact dAB x hxA x (List.mem_cons_of_mem _ h) rfl
  ·rw [List.mem_singleton.1 h]at hxA
   exact d1 (List.mem_append.2 (.inl hxA))
 ·refine⟨⟨List.getElem?_set_self hlp,List.getElem?_set_self hlq⟩,h3.congr (fun x hx=>?_) (fun x hx=>?_)⟩
  ·rw [<-hq,List.dropLast_concat]at hx
   refine List.getElem?_set_ne fun hh=>?_
   rw [hh]at hpm
   rcases List.mem_cons.1 hpm with h|h
   ·rw [h]at hx;exact d1 (List.mem_append.2 (.inr (List.mem_cons_of_mem _ hx)))
   ·exact dAB x h x (List.mem_cons_of_mem _ hx) rfl
  ·simp only [List.tail_cons]at hx
   refine List.getElem?_set_ne fun hh=>?_
   rw [<-hh]at hx
   cases B with
   |nil=>
    simp only [List.nil_append,List.cons.injEq]at hq
    rw [<-hq.2]at hx;simp at hx
   |cons b B=>
    simp only [List.cons_append,List.cons.injEq]at hq
    obtain⟨rfl,rfl⟩:=hq
    rcases List.mem_append.1 hx with h|h
    ·exact(List.nodup_cons.1 dB.2).1 h
    ·rw [List.mem_singleton.1 h]at d1
     exact d1 (List.mem_append.2 (.inr sm))
end Go.Dw
namespace Go.Dw
section
variable {α:Type} [DecidableEq α]
def rounds(least:Nat)(win mem:List α->List α):Nat->List α->List (List α)×List α
 |0,_=>([],[])
 |_+1,[]=>([],[])
 |n+1,i::r=>
  if least<=(win (i::r)).length∧least<=(mem (win (i::r))).length then
   (mem (win (i::r))::(rounds least win mem n ((i::r).filter fun x=>decide (x∉mem (win (i::r))))).1,(rounds least win mem n ((i::r).filter fun x=>decide (x∉mem (win (i::r))))).2)
  else((rounds least win mem n r).1,i::(rounds least win mem n r).2)
theorem eu(least:Nat)(win mem:List α->List α)(n:Nat)(i:α)(r:List α):rounds least win mem (n+1) (i::r)=
  if least<=(win (i::r)).length∧least<=(mem (win (i::r))).length then
   (mem (win (i::r))::(rounds least win mem n ((i::r).filter fun x=>decide (x∉mem (win (i::r))))).1,(rounds least win mem n ((i::r).filter fun x=>decide (x∉mem (win (i::r))))).2)
  else((rounds least win mem n r).1,i::(rounds least win mem n r).2):=rfl
structure WinOk(win mem:List α->List α):Prop where
 sub:∀l,(win l).Sublist l
 mem:∀l,(mem l).Sublist l
theorem lm{l m:List α}{least:Nat}(h0:1<=least)(hm:m.Sublist l)(h:least<=m.length):(l.filter fun x=>decide (x∉m)).length<l.length:=by
 cases m with
 |nil=>simp at h;omega
 |cons a m=>
  have ha:a∈l:=hm.subset sm
  refine Nat.lt_of_le_of_ne (List.length_filter_le _ _) fun he=>?_
  have:=List.length_filter_eq_length_iff.1 he a ha
  simp at this
variable {least:Nat}{win mem:List α->List α}
theorem kI(h:WinOk win mem)(h0:1<=least):∀(n:Nat)(l:List α),l.length<=n->l.Nodup->((rounds least win mem n l).1.flatten++(rounds least win mem n l).2).Perm l
 |0,l,hl,_=>by simp [List.eq_nil_of_length_eq_zero (Nat.le_zero.1 hl),rounds]
 |n+1,[],_,_=>by simp [rounds]
 |n+1,i::r,hl,hd=>by
  rw [eu]
  split
  ·rename_i hc
   have hs:(mem (win (i::r))).Sublist (i::r):=(h.mem _).trans (h.sub _)
   have hlt:=lm h0 hs hc.2
   have ih:=kI h h0 n ((i::r).filter fun x=>decide (x∉mem (win (i::r)))) za (hd.sublist List.filter_sublist)
   simp only [List.flatten_cons,List.append_assoc]
   refine(List.Perm.append_left _ ih).trans ?_
   have hmd:=hd.sublist hs
   generalize mem (win (i::r))=m at hs hmd⊢
   generalize i::r=l at hs hd⊢
   have hms:m.Perm (l.filter fun x=>decide (x∈m)):=by
    rw [List.perm_ext_iff_of_nodup hmd (hd.sublist List.filter_sublist)]
    intro x
    simp only [List.mem_filter,decide_eq_true_eq]
    exact⟨fun hx=>⟨hs.subset hx,hx⟩,fun hx=>hx.2⟩
   refine(List.Perm.append_right _ hms).trans ?_
   have:=List.filter_append_perm (fun x=>decide (x∈m)) l
   simpa using this
  ·have ih:=kI h h0 n r (by simpa using hl) (List.nodup_cons.1 hd).2
   refine List.perm_middle.trans ?_
   exact List.Perm.cons _ ih
theorem oV(n:Nat)(l:List α):∀g∈(rounds least win mem n l).1,least<=g.length:=by
 induction n generalizing l with
 |zero=>intro g hg;simp [rounds]at hg
 |succ n ih=>
  cases l with
  |nil=>intro g hg;simp [rounds]at hg
  |cons i r=>
   intro g hg
   unfold rounds at hg
   split at hg
   ·rename_i hc
    simp only [List.mem_cons]at hg
    rcases hg with rfl|hg
    ·exact hc.2
    ·exact ih _ g hg
   ·exact ih _ g hg
theorem nh{β:Type} [DecidableEq β] {win' mem':List β->List β}{f:α->β}(S:List α)(hf:∀x∈S,∀y∈S,f x=f y->x=y)(h:WinOk win mem):
  ∀(n:Nat)(l:List α),l.Sublist S->(∀l',l'.Sublist S->win' (l'.map f)=(win l').map f∧mem' ((win l').map f)=(mem (win l')).map f)->
   rounds least win' mem' n (l.map f)=((rounds least win mem n l).1.map (List.map f),(rounds least win mem n l).2.map f)
 |0,l,_,_=>rfl
 |n+1,[],_,_=>rfl
 |n+1,i::r,hl,hw=>by
  obtain⟨w1,w2⟩:=hw (i::r) hl
  rw [List.map_cons]at w1⊢
  rw [eu,eu,w1,w2]
  simp only [List.length_map]
  have hs:=(h.mem (win (i::r))).trans (h.sub (i::r))
  split
  ·generalize mem (win (i::r))=m at hs⊢
   have hfil:(f i::r.map f).filter (fun x=>decide (x∉m.map f))=((i::r).filter fun x=>decide (x∉m)).map f:=by
    rw [<-List.map_cons,List.filter_map]
    congr 1
    refine List.filter_congr fun x hx=>?_
    simp only [Function.comp,List.mem_map,decide_eq_decide]
    constructor
    ·intro hn hxm;exact hn ⟨x,hxm,rfl⟩
    ·rintro hn ⟨y,hy,hyx⟩
     have:=hf y (hl.subset (hs.subset hy)) x (hl.subset hx) hyx
     exact hn (this▸hy)
   rw [hfil]
   have ih:=nh S hf h n ((i::r).filter fun x=>decide (x∉m)) (List.filter_sublist.trans hl) hw
   rw [ih]
   simp
  ·have ih:=nh S hf h n r ((List.sublist_cons_self _ _).trans hl) hw
   rw [ih]
   simp
end
end Go.Dw
set_option maxRecDepth 100000
set_option maxHeartbeats 4000000
namespace Go.Dw.Ed
open Go.Dw Go.Proofs
abbrev Ph:=al
abbrev As:=aG
theorem flat_loop{α β ω:Type}{l:List α}{f:α->List β}{g:List β->ω}{body:(Int×List β)->Option (py (Int×List β) ω)}(hf:∀x∈l,(f x).length<=1)
  (h1:∀(i:Nat)(hi:i<l.length)(acc:List β),acc.length<=i->body ((i:Int),acc)=some (.next (((i+1:Nat):Int),acc++f l[i])))
  (h2:∀acc,acc.length<=l.length->body ((l.length:Int),acc)=some (.stop (g acc))):oC body ((0:Int),[])=some (g (l.flatMap f)):=by
 have key:∀(k i:Nat)(acc:List β),i+k=l.length->acc.length<=i->oC body ((i:Int),acc)=some (g (acc++(l.drop i).flatMap f)):=by
  intro k
  induction k with
  |zero=>
   intro i acc hi ha
   obtain rfl:i=l.length:=by omega
   rw [pK (h2 acc ha)]
   simp
  |succ k ih=>
   intro i acc hi ha
   have hlt:i<l.length:=by omega
   rw [pZ (h1 i hlt acc ha),ih (i+1) _ za (by have:=hf _ (List.getElem_mem hlt);rw [List.length_append];omega),List.drop_eq_getElem_cons hlt,List.flatMap_cons,List.append_assoc]
 have:=key l.length 0 [] za sm
 simpa using this
theorem nQ{α β ω:Type}{l:List α}{f:α->β}{g:List β->ω}{body:(Int×List β)->Option (py (Int×List β) ω)}
  (h1:∀(i:Nat)(hi:i<l.length)(acc:List β),acc.length<=i->body ((i:Int),acc)=some (.next (((i+1:Nat):Int),acc++[f l[i]])))
  (h2:∀acc,acc.length<=l.length->body ((l.length:Int),acc)=some (.stop (g acc))):oC body ((0:Int),[])=some (g (l.map f)):=by
 rw [flat_loop (f:=fun x=>[f x]) (fun _ _=>sm) h1 h2]
 rw [<-List.map_eq_flatMap]
theorem or3(a b c:Int):cA [a,b,c]=some (if a≠0 then a else if b≠0 then b else c):=by
 unfold cA
 have:=Sd.or_go (l:=[a,b,c]) (n:=0) (r:=[a,b,c]) sm sm rfl
 rw [show((0:Int))=((0:Nat):Int)from rfl,this]
 by_cases ha:a=0<;>by_cases hb:b=0<;>by_cases hc:c=0<;>simp [List.find?,ha,hb,hc]
def cmpG(a b:aa):Int:=if qU a.fX b.fX≠0 then qU a.fX b.fX else if qU a.fY b.fY≠0 then qU a.fY b.fY else qU a.fZ b.fZ
theorem cmpG_eq(a b:aa):dx a b=some (cmpG a b):=by
 unfold dx
 simp only [Sd.iS,zd,or3]
 rfl
theorem cmpG_tot:Tot cmpG:=(re.map fun x:aa=>x.fX).or ((re.map fun x:aa=>x.fY).or (re.map fun x:aa=>x.fZ))
def cmpF(a b:Ph):Int:=if qU a.aM b.aM≠0 then qU a.aM b.aM else if qU a.bv b.bv≠0 then qU a.bv b.bv else if cmpG a.aQ b.aQ≠0 then cmpG a.aQ b.aQ else qU a.bD b.bD
theorem cmpF_eq(a b:Ph):gE a b=some (cmpF a b):=by
 unfold gE
 simp only [Sd.iS,cmpG_eq,zd,Sd.or4]
 rfl
theorem cmpF_tot:Tot cmpF:=(re.map fun x:Ph=>x.aM).or ((re.map fun x:Ph=>x.bv).or ((cmpG_tot.map fun x:Ph=>x.aQ).or (re.map fun x:Ph=>x.bD)))
def zPh:Ph:=⟨⟨0,0,0⟩,0,0,0⟩
def nA(F:List Ph)(i:Int):Ph:=F.getD i.toNat zPh
theorem phAt_get{F:List Ph}{i:Int}(h0:0<=i)(h1:i<F.length):pH F i=some (nA F i):=by
 rw [pN (i:=i.toNat) za za]
 unfold nA
 rw [List.getD_eq_getElem?_getD,ze za];rfl
theorem phAt_mem{F:List Ph}{i:Int}(h0:0<=i)(h1:i<F.length):nA F i∈F:=by
 unfold nA
 rw [List.getD_eq_getElem?_getD,ze za]
 exact List.getElem_mem _
theorem ins_order{F:List Ph}{l:List Int}(hl:∀i∈l,0<=i∧i<F.length)(hn:l.length<=1000):cf 0 (l.length:Int) l F=some (cH (fun i k=>decide (cmpF (nA F i) (nA F k)<0)) l):=by
 refine Eq.trans (b:=insG (fun i k=>eU i k F) (fun c=>decide (c<0)) 0 (l.length:Int) l) rfl (insG_at (S:=fun i=>0<=i∧i<(F.length:Int)) (fun i k hi hk=>⟨cmpF (nA F i) (nA F k),?_,rfl⟩) hl hn)
 unfold eU
 rw [phAt_get hi.1 hi.2,zd,phAt_get hk.1 hk.2,zd,cmpF_eq];rfl
theorem stable_order{F:List Ph}{l:List Int}(hl:∀i∈l,0<=i∧i<F.length)(hn:l.length<=19):cM l F=some (cH (fun i k=>decide (cmpF (nA F i) (nA F k)<0)) l):=by
 unfold cM dT
 rw [pK (o:=((0:Int),l)) (by unfold fe;dsimp only;rw [if_neg so]),zd]
 dsimp only
 rw [ins_order hl za,zd,pK (o:=cH (fun i k=>decide (cmpF (nA F i) (nA F k)<0)) l) (by unfold eM;rw [if_neg so];rfl)]
 rfl
def ids(n:Nat):List Int:=(List.range n).map fun i:Nat=>(i:Int)
theorem ids_mem{n:Nat}{i:Int}:i∈ids n↔0<=i∧i<n:=by
 unfold ids
 rw [List.mem_map]
 constructor
 ·rintro⟨k,hk,rfl⟩
  have:=List.mem_range.1 hk
  omega
 ·intro h
  exact⟨i.toNat,List.mem_range.2 za,za⟩
theorem ids_succ(n:Nat):ids (n+1)=ids n++[(n:Int)]:=by unfold ids;rw [List.range_succ,List.map_append];rfl
theorem ids_len(n:Nat):(ids n).length=n:=by unfold ids;simp
theorem ids_asc(n:Nat):(ids n).Pairwise (· < ·):=by
 unfold ids
 rw [List.pairwise_map]
 exact List.pairwise_lt_range.imp fun h=>by omega
structure mu(F:List Ph)(o:List Int):Prop where
 perm:o.Perm (ids F.length)
 lex:o.Pairwise (Lex (fun i k=>cmpF (nA F i) (nA F k)) (· < ·))
theorem order_at{F:List Ph}(hn:F.length<=19):∃o,iR F=some o∧mu F o:=by
 refine⟨_,?_,b8 _ _,sortI_lex (cmpF_tot.map (nA F)) (ids_asc F.length)⟩
 refine Ok.eq ?_
 unfold iR
 refine Ok.bind (Ok.mk za za za) (fun x hx=>?_)
 subst hx
 refine Ok.bind (P:=fun o=>o=ids F.length) (Ok.loop (fun s:Int×List Int=>∃i:Nat,i<=F.length∧s=((i:Int),ids i++List.replicate (F.length-i) 0)) (fun s=>((F.length:Int)-s.1).toNat) ?_ ⟨0,Nat.zero_le _,by simp [ids]⟩) (fun o ho=>?_)
 ·rintro s ⟨i,hi,rfl⟩
  unfold kX
  dsimp only
  refine Ok.pL (fun hlt=>?_) (fun hge=>Ok.st ?_)
  rotate_left
  ·obtain rfl:i=F.length:=by simp at hge;omega
   simp
  simp at hlt
  have e:List.replicate (F.length-i) (0:Int)=0::List.replicate (F.length-(i+1)) 0:=by
   rw [show F.length-i=(F.length-(i+1))+1 by omega];rfl
  rw [e,qy za (by simp [ids_len];omega),zd,set1 _ _ _ _ (by rw [ids_len]),zd,w64 za za]
  refine Ok.nx ⟨i+1,za,?_⟩ zc
  rw [ids_succ];simp
 ·subst ho
  rw [stable_order (fun i hi=>by have:=ids_mem.1 hi;omega) (by rw [ids_len];omega)]
  exact Ok.ret rfl
theorem eV{nx bk:List Int}{n:Nat}(h:nx.length=n+1)(hn:n<=1000):ij ⟨nx,bk⟩=some (n:Int):=by
 unfold ij
 rw [w64 zc zc]
 simp [h]
theorem Lnk_range{nx bk:List Int}:∀(k m:Nat),(∀j,m<=j->j<m+k->nx[j]? =some ((j+1:Nat):Int)∧bk[j+1]? =some (j:Int))->Lnk nx bk (List.range' m k++[m+k])
 |0,m,_=>trivial
 |k+1,m,h=>by
  have ih:=Lnk_range k (m+1) (fun j h1 h2=>h j za za)
  have h0:=h m (Nat.le_refl _) za
  rw [show m+(k+1)=m+1+k by omega]
  cases k with
  |zero=>exact⟨h0,trivial⟩
  |succ k=>
   rw [List.range'_succ,List.range'_succ]at*
   exact⟨h0,ih⟩
theorem newChain_at{n:Nat}(hn:n<=1000):Ok (fS (n:Int)) (fun r=>r.mE.length=n+1∧r.fback.length=n+1∧Lnk r.mE r.fback (n::List.range n++[n])):=by
 unfold fS
 rw [w64 za za]
 refine Ok.bind (Ok.mk za za za) (fun x hx=>Ok.bind (Ok.mk za za za) (fun y hy=>?_))
 subst hx hy
 refine Ok.bind (P:=fun o:List Int×List Int=>o.1.length=n+1∧o.2.length=n+1∧∀j,j<=n->o.1[j]? =some (((j+1)%(n+1):Nat):Int)∧o.2[(j+1)%(n+1)]? =some (j:Int))
  (Ok.loop (fun s:Int×List Int×List Int=>∃i:Nat,s.1=(i:Int)∧i<=n+1∧s.2.1.length=n+1∧s.2.2.length=n+1∧∀j,j<i->s.2.1[j]? =some (((j+1)%(n+1):Nat):Int)∧s.2.2[(j+1)%(n+1)]? =some (j:Int)) (fun s=>((n:Int)+1-s.1).toNat) ?_ ⟨0,rfl,za,sm,sm,fun j hj=>za⟩) (fun o ho=>?_)
 ·rintro⟨s1,s2,s3⟩ ⟨i,i0,i1,i2,i3,i4⟩
  simp only at i0 i2 i3 i4
  subst i0
  unfold jw
  dsimp only
  rw [w64 (n:=(n:Int)+1) za za]
  refine Ok.pL (fun hlt=>?_) (fun hge=>Ok.st ?_)
  rotate_left
  ·obtain rfl:i=n+1:=by omega
   exact⟨i2,i3,fun j hj=>i4 j za⟩
  rw [w64 (n:=(i:Int)+1) za za]
  have hr:vL ((i:Int)+1) ((n:Int)+1)=some (((i+1)%(n+1):Nat):Int):=by
   unfold vL
   rw [if_neg za,Int.tmod_eq_emod_of_nonneg za]
   rfl
  have hlt':(i+1)%(n+1)<n+1:=Nat.mod_lt _ za
  rw [hr,zd,zd,qy za za,zd,wa (i:=i) rfl za,zd,qy za za,zd,wa (i:=(i+1)%(n+1)) rfl za,zd]
  refine Ok.nx ⟨i+1,zc,za,by simpa using i2,by simpa using i3,fun j hj=>?_⟩ zc
  by_cases e:j=i
  ·subst e
   exact⟨List.getElem?_set_self za,List.getElem?_set_self za⟩
  ·have hne:(i+1)%(n+1)≠(j+1)%(n+1):=by
    rw [Nat.mod_eq_of_lt (a:=j+1) za]
    by_cases h:i=n
    ·subst h;simp
    ·rw [Nat.mod_eq_of_lt za];omega
   exact⟨by rw [List.getElem?_set_ne za];exact(i4 j za).1,by rw [List.getElem?_set_ne hne];exact(i4 j za).2⟩
 ·refine Ok.ret ⟨ho.1,ho.2.1,?_⟩
  have h1:Lnk o.1 o.2 (List.range' 0 n++[0+n]):=Lnk_range n 0 fun j _ hj=>by
   have:=ho.2.2 j za
   rw [Nat.mod_eq_of_lt za]at this
   exact this
  have h0:=ho.2.2 n (Nat.le_refl _)
  rw [Nat.mod_self]at h0
  rw [<-List.range_eq_range',Nat.zero_add]at h1
  cases n with
  |zero=>exact⟨h0,trivial⟩
  |succ n=>
   rw [List.range_eq_range',List.range'_succ]at h1⊢
   exact⟨h0,h1⟩
theorem filter_ne{A B:List Nat}{i:Nat}(h:(A++i::B).Nodup):(A++i::B).filter (fun x=>decide (x∉ [i]))=A++B:=by
 rw [List.nodup_append]at h
 obtain⟨_,h2,h3⟩:=h
 rw [List.nodup_cons]at h2
 rw [List.filter_append,List.filter_cons_of_neg sm,List.filter_eq_self.2,List.filter_eq_self.2]
 ·intro x hx
  simp only [List.mem_singleton,decide_eq_true_eq]
  rintro rfl
  exact h2.1 hx
 ·intro x hx
  simp only [List.mem_singleton,decide_eq_true_eq]
  rintro rfl
  exact h3 x hx x sm rfl
structure Ch(n:Nat)(P:List Nat)(nx bk:List Int):Prop where
 ln:nx.length=n+1
 lb:bk.length=n+1
 lnk:Lnk nx bk (n::P++[n])
 nd:(n::P).Nodup
 lt:∀x∈P,x<n
theorem remove_at{n:Nat}{P:List Nat}{nx bk:List Int}(h:Ch n P nx bk){i:Nat}(hi:i∈P):∃nx' bk',jy (i:Int) nx bk=some (nx',bk')∧Ch n (P.filter fun x=>decide (x∉ [i])) nx' bk':=by
 obtain⟨A,B,rfl⟩:=List.append_of_mem hi
 obtain⟨h1,h2,h3,h4,h5⟩:=h
 obtain⟨p,q,b1,b2,hp,hq,hl⟩:=Lnk.remove h3 h4
 have hbd:∀x∈n::(A++B),x<=n:=fun x hx=>by
  rcases List.mem_cons.1 hx with rfl|hx
  ·exact Nat.le_refl _
  ·refine Nat.le_of_lt (h5 x ?_)
   rcases List.mem_append.1 hx with hx|hx
   ·exact List.mem_append.2 (.inl hx)
   ·exact List.mem_append.2 (.inr (List.mem_cons_of_mem _ hx))
 have hp':=hbd p hp;have hq':=hbd q hq;have hi':=h5 i hi
 have nd:=(List.nodup_cons.1 h4).2
 refine⟨nx.set p q,bk.set q p,?_,?_⟩
 ·have gb:pH bk (i:Int)=some (p:Int):=by
   rw [pN (i:=i) rfl za]
   rw [ze za]at b1
   exact b1
  have gn:pH nx (i:Int)=some (q:Int):=by
   rw [pN (i:=i) rfl za]
   rw [ze za]at b2
   exact b2
  unfold jy
  rw [qy za za,zd,gb,zd,qy za za,zd,gn,zd,zd,zd,zd,zd,qy za za,zd,wa (i:=p) rfl za,zd,qy za za,zd,wa (i:=q) rfl za,zd]
 ·rw [filter_ne nd]
  refine⟨by simpa using h1,by simpa using h2,hl,?_,fun x hx=>?_⟩
  ·rw [List.nodup_cons]at h4⊢
   refine⟨fun hm=>h4.1 ?_,nd.sublist ((List.sublist_cons_self i B).append_left A)⟩
   rcases List.mem_append.1 hm with hm|hm
   ·exact List.mem_append.2 (.inl hm)
   ·exact List.mem_append.2 (.inr (List.mem_cons_of_mem _ hm))
  ·refine h5 x ?_
   rcases List.mem_append.1 hx with hx|hx
   ·exact List.mem_append.2 (.inl hx)
   ·exact List.mem_append.2 (.inr (List.mem_cons_of_mem _ hx))
end Go.Dw.Ed
set_option maxRecDepth 100000
set_option maxHeartbeats 4000000
namespace Go.Dw.Ed
open Go.Dw Go.Proofs
theorem flat_filter{α β:Type}(p:α->Bool)(f:α->β):∀l:List α,(l.flatMap fun x=>if p x=true then [f x]else [])=(l.filter p).map f
 | []=>rfl
 |x::l=>by
  rw [List.flatMap_cons,flat_filter p f l]
  by_cases h:p x=true
  ·rw [if_pos h,List.filter_cons_of_pos h];rfl
  ·rw [if_neg h,List.filter_cons_of_neg h];rfl
section
variable {α:Type}
def nl(k:α->Int)(span:Int):List α->List α
 | []=>[]
 |i::r=>((i::r).takeWhile fun j=>decide (k j-k i<=span)).take 16
theorem pF(k:α->Int)(span:Int):∀l,(nl k span l).Sublist l
 | []=>List.Sublist.refl _
 |_::_=>(List.take_sublist _ _).trans (List.takeWhile_sublist _)
theorem winK_cons(k:α->Int){span:Int}(h:0<=span)(i:α)(r:List α):nl k span (i::r)=i::(r.takeWhile fun j=>decide (k j-k i<=span)).take 15:=by
 show((i::r).takeWhile fun j=>decide (k j-k i<=span)).take 16=_
 rw [List.takeWhile_cons_of_pos so]
 rfl
theorem winK_map{β:Type}{k:α->Int}{k':β->Int}{f:α->β}{span:Int}:∀l:List α,(∀x∈l,k' (f x)=k x)->nl k' span (l.map f)=(nl k span l).map f
 | [],_=>rfl
 |i::r,h=>by
  show(((i::r).map f).takeWhile fun j=>decide (k' j-k' (f i)<=span)).take 16=(((i::r).takeWhile fun j=>decide (k j-k i<=span)).take 16).map f
  rw [List.takeWhile_map, <-List.map_take,h i sm]
  congr 2
  have:∀l:List α,(∀x∈l,k' (f x)=k x)->l.takeWhile ((fun j=>decide (k' j-k i<=span))∘f)=l.takeWhile fun j=>decide (k j-k i<=span):=by
   intro l hl
   induction l with
   |nil=>rfl
   |cons x l ih=>
    simp only [List.takeWhile_cons,Function.comp,hl x sm]
    rw [ih fun y hy=>hl y (List.mem_cons_of_mem _ hy)]
  exact this _ h
end
def fb(o:List Int)(j:Nat):Int:=o.getD j 0
def plP(F:List Ph)(o:List Int)(j:Nat):Ph:=nA F (fb o j)
theorem ordAt_get{o:List Int}{j:Nat}(h:j<o.length):pH o (j:Int)=some (fb o j):=by
 rw [pN (i:=j) rfl h]
 unfold fb
 rw [List.getD_eq_getElem?_getD,ze h];rfl
theorem ordAt_mem{o:List Int}{j:Nat}(h:j<o.length):fb o j∈o:=by
 unfold fb
 rw [List.getD_eq_getElem?_getD,ze h]
 exact List.getElem_mem _
theorem mu.len{F:List Ph}{o:List Int}(h:mu F o):o.length=F.length:=by rw [h.perm.length_eq,ids_len]
theorem mu.range{F:List Ph}{o:List Int}(h:mu F o){j:Nat}(hj:j<F.length):0<=fb o j∧fb o j<F.length:=ids_mem.1 (h.perm.mem_iff.1 (ordAt_mem (by rw [h.len];exact hj)))
theorem mu.get{F:List Ph}{o:List Int}(h:mu F o){j:Nat}(hj:j<F.length):pH o (j:Int)=some (fb o j)∧pH F (fb o j)=some (plP F o j)∧plP F o j∈F:=
 ⟨ordAt_get (by rw [h.len];exact hj),phAt_get (h.range hj).1 (h.range hj).2,phAt_mem (h.range hj).1 (h.range hj).2⟩
def lN(l:List Nat):List Int:=l.map fun j:Nat=>(j:Int)
theorem window_loop{n:Nat}{nx bk:List Int}{F:List Ph}{o:List Int}(ho:mu F o)(hn:F.length=n)(hn':n<=1000)(hl:nx.length=n+1)(hF:∀b∈F,0<=b.aM∧b.aM<=18014398509481984){a:As}{i:Nat}(hi:i<n):
  ∀(B:List Nat)(acc:List Int),Lnk nx bk (B++[n])->(∀x∈B,x<n)->acc.length<=16->oC (co nx bk o F (i:Int) a) ((((B++[n]).headD 0:Nat):Int),acc)=
   some (acc++lN ((B.takeWhile fun j=>decide ((plP F o j).aM-(plP F o i).aM<=a.dn)).take (16-acc.length)))
 | [],acc,_,_,_=>by
  rw [pK (o:=acc)]
  ·simp [lN]
  ·unfold co
   dsimp only
   rw [eV hl hn',zd,if_neg sm]
 |b::B,acc,hL,hB,ha=>by
  have hb:=hB b sm
  obtain⟨g1,g2,g3⟩:=ho.get (j:=b) za
  obtain⟨k1,k2,k3⟩:=ho.get (j:=i) za
  have f1:=hF _ g3;have f2:=hF _ k3
  have hw:IntKind.wrap .i64 ((plP F o b).aM-(plP F o i).aM)=(plP F o b).aM-(plP F o i).aM:=w64 za za
  have hL':nx[b]? =some (((B++[n]).headD 0:Nat):Int)∧Lnk nx bk (B++[n]):=by
   cases B with
   |nil=>exact⟨hL.1.1,hL.2⟩
   |cons c B=>exact⟨hL.1.1,hL.2⟩
  have hg:pH nx (b:Int)=some (((B++[n]).headD 0:Nat):Int):=by
   rw [pN (i:=b) rfl za]
   have:=hL'.1
   rw [ze za]at this
   exact this
  by_cases h16:acc.length<16
  ·by_cases hc:(plP F o b).aM-(plP F o i).aM<=a.dn
   ·have hbody:co nx bk o F (i:Int) a (((b:Nat):Int),acc)=some (.next ((((B++[n]).headD 0:Nat):Int),acc++[(b:Int)])):=by
     unfold co
     dsimp only
     rw [eV hl hn',zd,if_pos so,if_pos so,g1,zd,g2,zd,k1,zd,k2,zd,hw,if_pos (by simpa using hc),eH so,zd,qy za za,zd,hg,zd]
    show oC _ (((b:Nat):Int),acc)=_
    rw [pZ hbody,window_loop ho hn hn' hl hF hi B _ hL'.2 (fun x hx=>hB x (List.mem_cons_of_mem _ hx)) so,List.takeWhile_cons_of_pos (by simpa using hc)]
    rw [show 16-acc.length=(16-(acc++[(b:Int)]).length)+1 by simp;omega,List.take_succ_cons]
    simp [lN]
   ·have hbody:co nx bk o F (i:Int) a (((b:Nat):Int),acc)=some (.stop acc):=by
     unfold co
     dsimp only
     rw [eV hl hn',zd,if_pos so,if_pos so,g1,zd,g2,zd,k1,zd,k2,zd,hw,if_neg (by simpa using hc)]
    show oC _ (((b:Nat):Int),acc)=_
    rw [pK hbody,List.takeWhile_cons_of_neg (by simpa using hc)]
    simp [lN]
  ·have hbody:co nx bk o F (i:Int) a (((b:Nat):Int),acc)=some (.stop acc):=by
    unfold co
    dsimp only
    rw [eV hl hn',zd,if_pos so,if_neg so]
   show oC _ (((b:Nat):Int),acc)=_
   rw [pK hbody,show 16-acc.length=0 by omega]
   simp [lN]
theorem Lnk_head{nx bk:List Int}{n:Nat}{P:List Nat}(h:Lnk nx bk (n::P++[n]))(hl:nx.length=n+1):pH nx (n:Int)=some (((P++[n]).headD 0:Nat):Int)∧Lnk nx bk (P++[n]):=by
 have:nx[n]? =some (((P++[n]).headD 0:Nat):Int)∧Lnk nx bk (P++[n]):=by
  cases P with
  |nil=>exact⟨h.1.1,h.2⟩
  |cons c B=>exact⟨h.1.1,h.2⟩
 refine⟨?_,this.2⟩
 have h1:=this.1
 rw [pN (i:=n) rfl za]
 rw [ze za]at h1
 exact h1
theorem window_at{n:Nat}{nx bk:List Int}{F:List Ph}{o:List Int}(ho:mu F o)(hn:F.length=n)(hn':n<=1000)(hF:∀b∈F,0<=b.aM∧b.aM<=18014398509481984){a:As}{i:Nat}{r:List Nat}(hc:Ch n (i::r) nx bk):
  kx a F o nx bk=some (lN (nl (fun j=>(plP F o j).aM) a.dn (i::r)),nx,bk):=by
 obtain⟨h1,h2⟩:=Lnk_head hc.lnk hc.ln
 unfold kx
 rw [eV hc.ln hn',zd,qy za (by have:=hc.ln;omega),zd,h1,zd]
 have h3:=window_loop ho hn hn' hc.ln hF (a:=a) (i:=i) (hc.lt i sm) (i::r) [] h2 hc.lt sm
 have h4:((((i::r)++[n]).headD 0:Nat):Int)=(i:Int):=rfl
 rw [h4]at h3⊢
 rw [h3,zd]
 rfl
theorem residuals_at{q:ag}(hq:PV q){p:aa}(hp:Sub q.aK ⟨p,p⟩){t:Int}(ht: -5000<=t∧t<=18014398509481984):fF q p t=some (q.aX.map (fun b=>res (zn q ⟨p,p⟩ b) t),0):=by
 have hl:=hq.len
 have hz:∀z∈q.aX.map (zn q ⟨p,p⟩),dY z:=fun z hz=>by obtain⟨b,hb,rfl⟩:=List.mem_map.1 hz;exact(zn_at hq hp hb).2
 unfold fF
 rw [zones_at hq hp,zd,if_neg sm,if_neg so,if_neg so]
 dsimp only
 have hm:mkCO (0:Int) ((q.aX.map (zn q ⟨p,p⟩)).length:Int) (0:Int) 8=some []:=by
  unfold mkCO
  rw [if_pos ⟨za,za,so,so⟩];rfl
 rw [hm,zd,nQ (l:=q.aX.map (zn q ⟨p,p⟩)) (f:=fun z=>res z t) (g:=id) (fun i hi acc ha=>?_) (fun acc ha=>?_),zd]
 ·simp [Function.comp]
 ·unfold gV
  dsimp only
  rw [if_pos (by simp at hi⊢;omega),pN (i:=i) rfl hi,zd,res_at (hz _ (List.getElem_mem hi)) ht,zd,eH (by simp at hi⊢;omega),zd,w64 za (by simp at hi;omega)]
  rfl
 ·unfold gV
  dsimp only
  rw [if_neg sm];rfl
def pC(a:As)(ph:List Ph):ag:=⟨a.aK,a.bc,ph,a.cU⟩
noncomputable def loc (a:As) (ph:List Ph):aj:=((c7 (pC a ph) a.bP).getD (⟨⟨0,0,0⟩,0,0,0,⟨⟨0,0,0⟩,⟨0,0,0⟩⟩⟩,0)).1
def PhOk(a:As)(F:List Ph):Prop:=∀b∈F,PhV b∧Reach a.bc (mD a.aK b.aQ)
theorem prob_ok{s:aq}(hs:iZ s){ph:List Ph}(hp:PhOk s.ai ph)(hl:1<=ph.length∧ph.length<=64):PV (pC s.ai ph):=⟨hs.box,hs.reg,hs.tab,hl,hs.cap,hp⟩
theorem loc_at{s:aq}(hs:iZ s){ph:List Ph}(hp:PhOk s.ai ph)(hl:1<=ph.length∧ph.length<=64):
  c7 (pC s.ai ph) s.ai.bP=some (loc s.ai ph,0)∧Least (pC s.ai ph) s.ai.bP (loc s.ai ph)∧(-5000<=(loc s.ai ph).a7∧(loc s.ai ph).a7<=18014398509481984):=by
 have hq:=prob_ok hs hp hl
 obtain⟨⟨r1,r2⟩,e,h0,hL⟩:=locate_least hq hs.tol.1
 simp only at h0 hL
 subst h0
 have hloc:loc s.ai ph=r1:=by unfold loc;rw [e];rfl
 rw [hloc]
 refine⟨e,hL,?_⟩
 obtain⟨t,e1,hB⟩:=oQ hq hL.inn
 rw [hL.val]at e1
 simp only [Option.some.injEq,Prod.mk.injEq]at e1
 obtain⟨rfl, -⟩:=e1
 obtain⟨z,hz,hzt⟩:=mem_ends.1 hB.mem
 obtain⟨b,hb,rfl⟩:=List.mem_map.1 hz
 have:=(zn_at hq hL.inn hb).2
 obtain⟨z1,z2,z3⟩:=this
 simp only at hzt
 rcases hzt with h|h<;>omega
noncomputable def fits (a:As) (ph:List Ph) (b:Ph):Bool:=decide (res (zn (pC a ph) ⟨(loc a ph).aU,(loc a ph).aU⟩ b) (loc a ph).a7<=a.kM)
noncomputable def mJ {α:Type} (a:As) (ph:α->Ph) (w:List α):List α:=w.filter fun j=>fits a (w.map ph) (ph j)
theorem memK_map{α β:Type}{a:As}{ph:α->Ph}{ph':β->Ph}{f:α->β}{w:List α}(h:∀x∈w,ph' (f x)=ph x):mJ a ph' (w.map f)=(mJ a ph w).map f:=by
 have e:(w.map f).map ph'=w.map ph:=by
  rw [List.map_map]
  exact List.map_congr_left h
 unfold mJ
 rw [e,List.filter_map]
 congr 1
 refine List.filter_congr fun x hx=>?_
 simp only [Function.comp,h x hx]
theorem win_ok{α:Type}(a:As)(ph:α->Ph)(span:Int):WinOk (nl (fun j=>(ph j).aM) span) (mJ a ph):=⟨fun l=>pF _ _ l,fun _=>List.filter_sublist⟩
abbrev ci:Int->Int->Bool:=fun x y=>decide (qU x y<0)
theorem gt(l:List Nat):(lN l).length=l.length:=by simp [lN]
theorem nats_get{l:List Nat}{i:Nat}(h:i<l.length):pH (lN l) (i:Int)=some ((l[i]:Nat):Int):=by
 rw [pN (i:=i) rfl (by rw [gt];exact h)]
 simp [lN]
theorem pE{n:Nat}{F:List Ph}{o:List Int}(ho:mu F o)(hn:F.length=n):∀(M D P:List Nat)(nx bk acc:List Int),M.Nodup->(∀m∈M,m∈P)->Ch n P nx bk->(D++M).length<=1000->acc.length<=D.length->
  Ok (oC (ch (lN (D++M)) o) ((D.length:Int),nx,bk,acc)) (fun r=>Ch n (P.filter fun x=>decide (x∉M)) r.1 r.2.1∧r.2.2=acc++M.map (fb o))
 | [],D,P,nx,bk,acc,_,_,hc,_,_=>by
  rw [pK (o:=(nx,bk,acc))]
  ·refine Ok.ret ⟨?_,sm⟩
   rw [List.filter_eq_self.2 sm];exact hc
  ·unfold ch
   dsimp only
   rw [if_neg (by simp [gt])]
 |m::M,D,P,nx,bk,acc,hd,hm,hc,hl,ha=>by
  obtain⟨nx',bk',e,hc'⟩:=remove_at hc (hm m sm)
  have hmlt:=hc.lt m (hm m sm)
  obtain⟨g1,g2,g3⟩:=ho.get (j:=m) za
  have hl':D.length+(M.length+1)<=1000:=by simpa using hl
  have hD:D.length<(D++m::M).length:=by simp
  have hbody:ch (lN (D++m::M)) o ((D.length:Int),nx,bk,acc)=some (.next (((D++[m]).length:Int),nx',bk',acc++[fb o m])):=by
   unfold ch
   dsimp only
   rw [if_pos (by simp [gt];omega),qy za (by simp [gt];omega),zd,nats_get hD,zd]
   have:(D++m::M)[D.length]'hD=m:=by simp
   rw [this,e,zd,g1,zd,eH so,zd,w64 za za]
   simp
  rw [pZ hbody]
  have hd':=List.nodup_cons.1 hd
  have ih := pE ho hn M (D ++ [m]) _ nx' bk' (acc ++ [fb o m]) hd'.2 (fun x hx => by
   refine List.mem_filter.2 ⟨hm x (List.mem_cons_of_mem _ hx),?_⟩
   simp only [List.mem_singleton,decide_eq_true_eq]
   rintro rfl
   exact hd'.1 hx) hc' so so
  have e2:D++[m]++M=D++m::M:=by simp
  rw [e2]at ih
  refine ih.mono fun r hr=>⟨?_,by rw [hr.2];simp⟩
  have e3:List.filter (fun x=>decide (x∉M)) (List.filter (fun x=>decide (x∉ [m])) P)=P.filter fun x=>decide (x∉m::M):=by
   rw [List.filter_filter]
   refine List.filter_congr fun x _=>?_
   by_cases h1:x=m<;>by_cases h2:x∈M<;>simp [h1,h2]
  rw [<-e3]
  exact hr.1
theorem drop_first{n:Nat}{i:Nat}{r:List Nat}(hd:(n::i::r).Nodup):(i::r).filter (fun x=>decide (x∉ [i]))=r:=by
 have:=filter_ne (A:=[]) (i:=i) (B:=r) (List.nodup_cons.1 hd).2
 simpa using this
noncomputable abbrev rnd (a:As) (F:List Ph) (o:List Int) (m:Nat) (P:List Nat):List (List Nat)×List Nat:=rounds a.cN.toNat (nl (fun j=>(plP F o j).aM) a.dn) (mJ a (plP F o)) m P
theorem rounds_at{s:aq}(hs:iZ s){n:Nat}{F:List Ph}{o:List Int}(hn:F.length=n)(hF:n<=19)(hph:PhOk s.ai F)(ho:mu F o):
  ∀(m:Nat)(P:List Nat)(nx bk:List Int)(G:List aV)(L:List Int),P.length<=m->Ch n P nx bk->P.length<=n->G.length<=n-P.length->L.length<=n-P.length->
   Ok (oC (bT s.ai F o) (G,L,nx,bk)) (fun r=>∃G',r= .inl (G++G',L++(rnd s.ai F o m P).2.map (fb o))∧G'.map (·.cj)=(rnd s.ai F o m P).1.map fun g=>cH ci (g.map (fb o))):=by
 intro m
 induction m with
 |zero=>
  intro P nx bk G L hP hc _ _ _
  obtain rfl:=List.eq_nil_of_length_eq_zero (Nat.le_zero.1 hP)
  obtain⟨h1,h2⟩:=Lnk_head hc.lnk hc.ln
  rw [pK (o:= .inl (G,L))]
  ·exact Ok.ret ⟨[],by simp [rounds],rfl⟩
  ·unfold bT
   dsimp only
   have hh:((([]++[n]).headD 0:Nat):Int)=(n:Int):=rfl
   rw [eV hc.ln za,zd,qy za (by have:=hc.ln;omega),zd,h1,zd,zd,hh,if_neg sm]
 |succ m ih=>
  intro P nx bk G L hP hc hPn hG hL
  obtain⟨h1,h2⟩:=Lnk_head hc.lnk hc.ln
  match P,hP,hc,hPn,hG,hL,h1 with
  | [],hP,hc,hPn,hG,hL,h1=>
   rw [pK (o:= .inl (G,L))]
   ·exact Ok.ret ⟨[],by simp [rounds],rfl⟩
   ·unfold bT
    dsimp only
    have hh:((([]++[n]).headD 0:Nat):Int)=(n:Int):=rfl
    rw [eV hc.ln za,zd,qy za (by have:=hc.ln;omega),zd,h1,zd,zd,hh,if_neg sm]
  |i::r,hP,hc,hPn,hG,hL,h1=>
   have hlt:=hc.lt
   have hi:=hlt i sm
   have hh:((((i::r)++[n]).headD 0:Nat):Int)=(i:Int):=rfl
   have hwn:=window_at ho hn za (fun b hb=>⟨(hph b hb).1.early,by have:=(hph b hb).1.late;have:=(hph b hb).1.most;omega⟩) (a:=s.ai) hc
   have hsp:=hs.span.1
   have hwc:=winK_cons (fun j=>(plP F o j).aM) hsp i r
   have hsub:=pF (fun j=>(plP F o j).aM) s.ai.dn (i::r)
   generalize hw:nl (fun j=>(plP F o j).aM) s.ai.dn (i::r)=w at hwn hwc hsub
   have hwl:w.length<=(i::r).length:=hsub.length_le
   have hPn':r.length+1<=n:=by simpa using hPn
   have hwl':w.length<=r.length+1:=by simpa using hwl
   have hw0:1<=w.length:=by rw [hwc];simp
   have hle:=hs.least.1
   have k26:Ok (cg (lN w,nx,bk) o G L) (fun x=>∃nx' bk',x= .next (G,L++[fb o i],nx',bk')∧Ch n r nx' bk'):=by
    obtain⟨nx',bk',e,hc'⟩:=remove_at hc (i:=i) sm
    rw [drop_first hc.nd]at hc'
    unfold cg
    dsimp only
    have g0:pH (lN w) (0:Int)=some (i:Int):=by rw [hwc];rfl
    rw [g0,zd,(ho.get (j:=i) za).1,zd,eH so,zd,zd,e,zd]
    exact Ok.ret ⟨nx',bk',rfl,hc'⟩
   have no:¬(s.ai.cN.toNat<=w.length∧s.ai.cN.toNat<=(mJ s.ai (plP F o) w).length)->∀x,bT s.ai F o (G,L,nx,bk)=some x->(∃nx' bk',x= .next (G,L++[fb o i],nx',bk')∧Ch n r nx' bk')->
     Ok (oC (bT s.ai F o) (G,L,nx,bk)) (fun r'=>∃G',r'= .inl (G++G',L++(rnd s.ai F o (m+1) (i::r)).2.map (fb o))∧G'.map (·.cj)=(rnd s.ai F o (m+1) (i::r)).1.map fun g=>cH ci (g.map (fb o))):=by
    rintro hno x hx ⟨nx',bk',rfl,hc'⟩
    rw [pZ hx]
    have:=ih r nx' bk' G (L++[fb o i]) (by simpa using hP) hc' za (by simp at hG;omega) (by simp at hL⊢;omega)
    refine this.mono fun y hy=>?_
    obtain⟨G',e1,e2⟩:=hy
    rw [rnd,eu,hw,if_neg hno]
    exact⟨G',by rw [e1];simp,e2⟩
   have hstart:bT s.ai F o (G,L,nx,bk)=(if(decide (((lN w).length:Int)>=s.ai.cN))=true then((oC (df (lN w,nx,bk) o F G L) ((0:Int),([]:(List al)))).bind fun o40=>(dU s.ai o40.1).bind fun x41=>(c7 x41 s.ai.bP).bind fun x42=>if(x42.2 != (0:Int))=true then(some (.stop (.inr (([]:(List aV)),([]:(List Int)),x42.2))))else((dU s.ai o40.1).bind fun x44=>(fF x44 x42.1.aU x42.1.a7).bind fun x45=>if(x45.2 != (0:Int))=true then(some (.stop (.inr (([]:(List aV)),([]:(List Int)),x45.2))))else((oC (dg (lN w,nx,bk) x45 s.ai) ((0:Int),([]:(List Int)))).bind fun o57=>if(decide ((o57.length:Int)>=s.ai.cN))=true then((oC (ch o57 o) ((0:Int),nx,bk,([]:(List Int)))).bind fun o75=>(sh o75.2.2).bind fun x76=>(qq o40.2.1 [(aV.mk x76 x42.1.aU x42.1.a7)] 56).bind fun x77=>some (.next (x77,o40.2.2,o75.1,o75.2.1)))else(cg (lN w,nx,bk) o o40.2.1 o40.2.2))))else(cg (lN w,nx,bk) o G L)):=by
    conv=>lhs;unfold bT
    dsimp only
    rw [eV hc.ln za,zd,qy za (by have:=hc.ln;omega),zd,h1,zd,zd,hh,if_pos so,hwn,zd]
   by_cases hc1:s.ai.cN.toNat<=w.length
   ·rw [if_pos (by rw [gt];simp;omega)]at hstart
    have hwp:PhOk s.ai (w.map (plP F o)):=fun b hb=>by
     obtain⟨j,hj,rfl⟩:=List.mem_map.1 hb
     exact hph _ (ho.get (j:=j) (by have:=hlt j (hsub.subset hj);omega)).2.2
    have h39:oC (df (lN w,nx,bk) o F G L) ((0:Int),([]:(List al)))=some (w.map (plP F o),G,L):=by
     refine nQ (l:=w) (f:=plP F o) (g:=fun x=>(x,G,L)) (fun k hk acc ha=>?_) (fun acc ha=>?_)
     ·have hj:=hlt _ (hsub.subset (List.getElem_mem hk))
      obtain⟨g1,g2,g3⟩:=ho.get (j:=w[k]) za
      unfold df
      dsimp only
      rw [if_pos (by rw [gt];simp;omega),nats_get hk,zd,g1,zd,g2,zd,eH so,zd,w64 za za]
      rfl
     ·unfold df
      dsimp only
      rw [if_neg (by rw [gt];simp)]
    have hpl:1<=(w.map (plP F o)).length∧(w.map (plP F o)).length<=64:=by rw [List.length_map];omega
    obtain⟨e1,e2,e3⟩:=loc_at hs hwp hpl
    have e4:=residuals_at (prob_ok hs hwp hpl) e2.inn e3
    rw [h39,zd]at hstart
    dsimp only at hstart
    have hpr:dU s.ai (w.map (plP F o))=some (pC s.ai (w.map (plP F o))):=rfl
    rw [hpr,zd,e1,zd,if_neg sm,zd]at hstart
    dsimp only at hstart
    rw [e4,zd,if_neg sm]at hstart
    have h56:oC (dg (lN w,nx,bk) ((pC s.ai (w.map (plP F o))).aX.map (fun b=>res (zn (pC s.ai (w.map (plP F o))) ⟨(loc s.ai (w.map (plP F o))).aU,(loc s.ai (w.map (plP F o))).aU⟩ b) (loc s.ai (w.map (plP F o))).a7),0) s.ai) ((0:Int),([]:(List Int)))=some (lN (mJ s.ai (plP F o) w)):=by
     rw [flat_loop (l:=w) (f:=fun j=>if fits s.ai (w.map (plP F o)) (plP F o j)=true then [(j:Int)]else []) (g:=id) (fun x _=>by split<;>simp) (fun k hk acc ha=>?_) (fun acc ha=>?_)]
     ·congr 1
      exact flat_filter _ _ w
     ·unfold dg
      dsimp only
      have hres:pH ((pC s.ai (w.map (plP F o))).aX.map (fun b=>res (zn (pC s.ai (w.map (plP F o))) ⟨(loc s.ai (w.map (plP F o))).aU,(loc s.ai (w.map (plP F o))).aU⟩ b) (loc s.ai (w.map (plP F o))).a7)) (k:Int)=some (res (zn (pC s.ai (w.map (plP F o))) ⟨(loc s.ai (w.map (plP F o))).aU,(loc s.ai (w.map (plP F o))).aU⟩ (plP F o w[k])) (loc s.ai (w.map (plP F o))).a7):=by
       rw [pN (i:=k) rfl (by simp [pC];omega)]
       simp [pC]
      rw [if_pos (by rw [gt];simp;omega),nats_get hk,zd,hres,zd,w64 za za]
      by_cases hfit:fits s.ai (w.map (plP F o)) (plP F o w[k])=true
      ·rw [if_pos hfit]
       unfold fits at hfit
       rw [if_pos hfit,eH so,zd]
       rfl
      ·rw [if_neg hfit]
       unfold fits at hfit
       rw [if_neg hfit,List.append_nil]
       rfl
     ·unfold dg
      dsimp only
      rw [if_neg (by rw [gt];simp)];rfl
    rw [h56,zd]at hstart
    have hmsub:(mJ s.ai (plP F o) w).Sublist (i::r):=List.filter_sublist.trans hsub
    generalize hM:mJ s.ai (plP F o) w=M at hstart hmsub no
    have hMl:M.length<=r.length+1:=by simpa using hmsub.length_le
    by_cases hc2:s.ai.cN.toNat<=M.length
    ·rw [if_pos (by rw [gt];simp;omega)]at hstart
     have hnd:=(List.nodup_cons.1 hc.nd).2
     obtain⟨⟨nx',bk',acc⟩,t1,t2,t3⟩:=pE ho hn M [] (i::r) nx bk [] (hnd.sublist hmsub) (fun x hx=>hmsub.subset hx) hc so sm
     simp only [List.nil_append]at t1 t2 t3
     have t1':oC (ch (lN M) o) ((0:Int),nx,bk,[])=some (nx',bk',acc):=t1
     rw [t1',zd]at hstart
     dsimp only at hstart
     subst t3
     rw [sort_int so,zd,eH so,zd]at hstart
     rw [pZ hstart]
     have hlt':=lm (least:=s.ai.cN.toNat) za hmsub hc2
     have hfl:((i::r).filter fun x=>decide (x∉M)).length<=r.length:=by rw [List.length_cons]at hlt';omega
     have:=ih _ nx' bk' (G++[aV.mk (cH ci (M.map (fb o))) (loc s.ai (w.map (plP F o))).aU (loc s.ai (w.map (plP F o))).a7]) L (by rw [List.length_cons]at hP;omega) t2 za (by rw [List.length_append,List.length_singleton];rw [List.length_cons]at hG;omega) (by rw [List.length_cons]at hL;omega)
     refine this.mono fun y hy=>?_
     obtain⟨G',q1,q2⟩:=hy
     rw [rnd,eu,hw,hM,if_pos ⟨hc1,hc2⟩]
     rw [List.append_assoc]at q1
     refine⟨_,q1,?_⟩
     rw [List.singleton_append,List.map_cons,q2,List.map_cons]
    ·rw [if_neg (by rw [gt];simp;omega)]at hstart
     obtain⟨x,x1,x2⟩:=k26
     exact no (fun h=>hc2 h.2) x (hstart.trans x1) x2
   ·rw [if_neg (by rw [gt];simp;omega)]at hstart
    obtain⟨x,x1,x2⟩:=k26
    exact no (fun h=>hc1 h.1) x (hstart.trans x1) x2
theorem valid_at{s:aq}(hs:iZ s){F:List Ph}(hn:F.length<=256)(hph:PhOk s.ai F):da s.ai F=some 0:=by
 obtain⟨h1, -,h2,h3,h4,h5,h6,h7,h8,h9,h10,h11⟩:=hs
 have hin:∀{x a b:Int},a<=x->x<=b->dG x a b=some true:=fun h h'=>by
  unfold dG;rw [if_pos (by simpa using h)];simpa using h'
 unfold da
 rw [dq h1,zd,if_neg sm,fO h2,zd,if_neg sm,hin za za,zd,if_neg sm,hin za za,zd,if_neg sm,hin za za,zd,if_neg sm,hin za za,zd,if_neg sm,hin za za,zd,if_neg sm,if_neg so]
 have:oC (cK F s.ai) (0:Int)=some (.inl ()):=by
  refine jm F.length (fun i hi=>?_) ?_
  ·unfold cK
   have hb:=hph _ (List.getElem_mem hi)
   obtain⟨z,e,hz⟩:=pG h2 h1 hb.1
   rw [if_pos so,pN (i:=i) rfl hi,zd,e,zd,if_neg (by simp [hz.1.2 hb.2]),w64 za za]
   rfl
  ·unfold cK
   rw [if_neg sm]
 rw [this];rfl
theorem associate_at {s : aq} (hs : iZ s) {F : List Ph} (hF : F.length ≤ 19) (hph : PhOk s.ai F) : ∃ o, mu F o ∧ Ok (fo s.ai F) (fun r => r.2.2 = 0 ∧
  r.1.map (·.cj)=(rnd s.ai F o F.length (List.range F.length)).1.map (fun g=>cH ci (g.map (fb o)))∧r.2.1=cH ci ((rnd s.ai F o F.length (List.range F.length)).2.map (fb o))):=by
 obtain⟨o,e,ho⟩:=order_at (F:=F) za
 refine⟨o,ho,?_⟩
 unfold fo
 rw [valid_at hs za hph,zd,if_neg sm,e,zd]
 refine Ok.bind (newChain_at (n:=F.length) za) (fun c⟨c1,c2,c3⟩=>?_)
 refine Ok.bind (rounds_at hs rfl hF hph ho F.length (List.range F.length) c.mE c.fback [] [] sm ⟨c1,c2,c3,?_,fun x hx=>List.mem_range.1 hx⟩ sm sm sm) (fun r hr=>?_)
 ·rw [List.nodup_cons]
  exact⟨sm,List.nodup_range⟩
 ·obtain⟨G',rfl,hG⟩:=hr
  simp only [List.nil_append]
  have hp:((rnd s.ai F o F.length (List.range F.length)).1.flatten++(rnd s.ai F o F.length (List.range F.length)).2).Perm (List.range F.length):=kI (win_ok s.ai (plP F o) s.ai.dn) (least:=s.ai.cN.toNat) (by have:=hs.least.1;omega) F.length (List.range F.length) sm List.nodup_range
  have hl:=hp.length_eq
  rw [List.length_append,List.length_range]at hl
  rw [sort_int (by rw [List.length_map];omega),zd]
  exact Ok.ret ⟨rfl,hG,rfl⟩
end Go.Dw.Ed
set_option maxRecDepth 100000
set_option maxHeartbeats 4000000
namespace Go.Dw.Ed
open Go.Dw Go.Proofs
open Sd (mU jz il)
structure UsV(a:aq)(r:al×ar×Bool):Prop where
 ph:PhV r.1
 reach:Reach a.ai.bc (mD a.ai.aK r.1.aQ)
 resp:mQ r.2.1.bg
noncomputable def used (a:aq) (v:ap) (p:Pick):al×ar×Bool:=(dI a v p).getD (⟨⟨0,0,0⟩,0,0,0⟩,zEp,false)
theorem epAt_ok{v:ap}(hv:iH v){s:Sid}{t:Int}{e:ar}(h:lR v s t=some e):EpOk e:=by
 unfold lR at h
 cases hc:chan v s with
 |none=>rw [hc]at h;cases h
 |some c=>
  rw [hc]at h
  exact(hv.all c (chan_mem hc).1).2.all e (epIn_mem h).1
theorem pz{e:ar}(he:EpOk e){p:Pick}(hp:fQ p):PhV ⟨e.aW,p.aM,p.bv,1⟩:=by
 obtain⟨h0,h1,h2,h3,h4,h5⟩:=hp
 exact⟨he.pos,h1,zc,zc,rfl⟩
theorem mf{a:aq}(ha:iZ a){v:ap}(hv:iH v){p:Pick}(hp:fQ p):dI a v p=some (used a v p)∧((used a v p).2.2=true->UsV a (used a v p)):=by
 have h:Ok (dI a v p) (fun r=>r.2.2=true->UsV a r):=by
  unfold dI
  rw [nk hp,zd,if_neg sm,At_eq hv.lens (jl hv),zd]
  cases h:lR v p.aA p.a7 with
  |none=>
   dsimp only
   rw [if_pos sm]
   exact Ok.ret sm
  |some e=>
   dsimp only
   rw [if_neg sm]
   have he:=epAt_ok hv h
   refine Ok.bind (pG ha.tab ha.box (a:=⟨e.aW,p.aM,p.bv,1⟩) (pz he hp)) (fun z hz=>?_)
   exact Ok.qP (fun _=>Ok.ret sm) (fun h0=>Ok.ret fun _=>⟨pz he hp,hz.1.1 h0,he.resp⟩)
 obtain⟨r,e,hr⟩:=h
 have:used a v p=r:=by unfold used;rw [e];rfl
 rw [this]
 exact⟨e,hr⟩
noncomputable def b7 (a:aq) (v:ap) (L:List Pick):List Pick:=L.filter fun p=>(used a v p).2.2
noncomputable def mat (a:aq) (v:ap) (U:List Pick):aS:=⟨U,U.map fun p=>(used a v p).1,U.map fun p=>(used a v p).2.1⟩
theorem gather_at{a:aq}(ha:iZ a){v:ap}(hv:iH v){l L:List Pick}(hL:cQ l=some L)(hl:L.length<=20)(hp:∀p∈L,fQ p):gu a v l=some (mat a v (b7 a v L),0):=by
 unfold gu
 rw [set_valid ha,zd,if_neg sm,jl hv,zd,if_neg sm,hL,zd]
 have:Ok (oC (iF L a v) ((0:Int),([]:List ae),([]:List al),([]:List ar))) (fun o=>o=((mat a v (b7 a v L)).db,(mat a v (b7 a v L)).cx,(mat a v (b7 a v L)).f7)):=by
  refine Ok.loop (fun s:Int×List Pick×List al×List ar=>∃i:Nat,i<=L.length∧s=((i:Int),(mat a v (b7 a v (L.take i))).db,(mat a v (b7 a v (L.take i))).cx,(mat a v (b7 a v (L.take i))).f7)) (fun s=>((L.length:Int)-s.1).toNat) ?_ ⟨0,Nat.zero_le _,rfl⟩
  rintro s ⟨i,i0,rfl⟩
  unfold iF
  dsimp only
  refine Ok.pL (fun hlt=>?_) (fun hge=>Ok.st ?_)
  rotate_left
  ·obtain rfl:i=L.length:=by omega
   rw [List.take_length]
  have hi:i<L.length:=by omega
  have hlu:(b7 a v (L.take i)).length<=20:=by
   have:=List.length_filter_le (fun p=>(used a v p).2.2) (L.take i)
   have h2:(L.take i).length<=L.length:=by rw [List.length_take];omega
   unfold b7;omega
  rw [qy za za,zd,pN rfl hi,zd,(mf ha hv (hp _ (List.getElem_mem hi))).1,zd,w64 za za]
  have ht:b7 a v (L.take (i+1))=b7 a v (L.take i)++(if(used a v L[i]).2.2=true then [L[i]]else []):=by
   unfold b7
   rw [qu hi,List.filter_append]
   congr 1
   by_cases h:(used a v L[i]).2.2=true<;>simp [h]
  by_cases hu:(used a v L[i]).2.2=true
  ·rw [if_pos hu]at ht⊢
   rw [eH (by simp only [mat,List.length_cons,List.length_nil];omega),zd,eH (by simp only [mat,List.length_map,List.length_cons,List.length_nil];omega),zd,eH (by simp only [mat,List.length_map,List.length_cons,List.length_nil];omega),zd]
   refine Ok.nx ⟨i+1,hi,?_⟩ zc
   rw [ht]
   simp [mat]
  ·rw [if_neg hu]at ht⊢
   refine Ok.nx ⟨i+1,hi,?_⟩ zc
   rw [ht]
   simp
 rw [this.eq,zd]
noncomputable def oY (m:aS) (a:aq):Option (aY×Int):=
 (iv m a).bind fun x3=>if(x3.2 != (0:Int))=true then(some ((aY.mk [] (aj.mk (aa.mk 0 0 0) 0 0 0 (ah.mk (aa.mk 0 0 0) (aa.mk 0 0 0))) (az.mk 0 0) 0),x3.2))else((c7 x3.1 a.bP).bind fun x5=>if(x5.2 != (0:Int))=true then(some ((aY.mk [] (aj.mk (aa.mk 0 0 0) 0 0 0 (ah.mk (aa.mk 0 0 0) (aa.mk 0 0 0))) (az.mk 0 0) 0),x5.2))else((cC m a x5.1.aZ).bind fun x7=>if(decide ((x7.length:Int)>(0:Int)))=true then((eZ x7).bind fun x9=>if(x9.2 != (0:Int))=true then(some ((aY.mk [] (aj.mk (aa.mk 0 0 0) 0 0 0 (ah.mk (aa.mk 0 0 0) (aa.mk 0 0 0))) (az.mk 0 0) 0),x9.2))else(some ((aY.mk m.db x5.1 x9.1 (x7.length:Int)),(0:Int))))else(some ((aY.mk m.db x5.1 (az.mk 0 0) 0),(0:Int)))))
theorem solve_at{a:aq}{v:ap}{l:List Pick}{m:aS}(h:gu a v l=some (m,0)):fM a v l=oY m a:=by
 unfold fM
 rw [h,zd,if_neg sm]
 rfl
structure MatP(a:aq)(m:aS):Prop where
 mat:MatV m
 ph:∀b∈m.cx,PhV b∧Reach a.ai.bc (mD a.ai.aK b.aQ)
theorem mat_ok{a:aq}(ha:iZ a){v:ap}(hv:iH v){U:List Pick}(hl:U.length<=19)(hp:∀p∈U,fQ p∧(used a v p).2.2=true):MatP a (mat a v U):=by
 refine⟨⟨⟨by simp [mat],by simp [mat]⟩,hl,fun b hb=>?_,fun e he=>?_⟩,fun b hb=>?_⟩
 ·obtain⟨p,h,rfl⟩:=List.mem_map.1 hb
  exact((mf ha hv (hp p h).1).2 (hp p h).2).ph.pos
 ·obtain⟨p,h,rfl⟩:=List.mem_map.1 he
  exact((mf ha hv (hp p h).1).2 (hp p h).2).resp
 ·obtain⟨p,h,rfl⟩:=List.mem_map.1 hb
  have:=(mf ha hv (hp p h).1).2 (hp p h).2
  exact⟨this.ph,this.reach⟩
theorem clone_at'{l:List Int}(h:l.length<=1000):ry 8 l=some l:=by
 unfold ry
 rw [if_pos za]
theorem solve_ok{a:aq}(ha:iZ a){m:aS}(hm:MatP a m):Ok (oY m a) (fun r=>(m.db=[]->r.2=24)∧(m.db≠ []->r.2=0∧r.1.f5=m.db∧(m.db.length=1->r.1.av.bi=0))∧r.1.f5.length<=19):=by
 obtain⟨hm,hph⟩:=hm
 obtain⟨⟨l1,l2⟩,l3, -, -⟩:=id hm
 have hl:=ha.tab.len;have hs:=ha.tab.same
 unfold oY iv
 by_cases h0:m.db=[]
 ·rw [if_pos (by simp [l1,h0]),zd,if_pos sm]
  exact Ok.ret ⟨fun _=>rfl,fun h=>(h h0).elim,sm⟩
 have hpos:=List.length_pos_iff.2 h0
 rw [if_neg (by simp;intro e;rw [e]at l1;simp at l1;omega),if_neg so,clone_at' za,zd,clone_at' za,zd,zd,if_neg sm]
 have hq:PV ⟨a.ai.aK,⟨a.ai.bc.bn,a.ai.bc.aI,a.ai.bc.aC⟩,m.cx,a.ai.cU⟩:=⟨ha.box,ha.reg,ha.tab,⟨zc,zc⟩,ha.cap,hph⟩
 refine Ok.bind (locate_ok hq ha.tolerance.1) (fun x⟨x1,x2,x3⟩=>?_)
 refine Ok.qP (fun h=>(h x1).elim) (fun _=>?_)
 refine Ok.bind (estimates_ok ha hm (x2.ok ha.box ha.reg)) (fun y hy=>?_)
 have hmis:m.db.length=1->x.1.bi=0:=fun h=>x3 (by show m.cx.length=1;omega)
 refine Ok.pL (fun hgt=>?_) (fun _=>Ok.ret ⟨fun h=>(h0 h).elim,fun _=>⟨rfl,rfl,hmis⟩,l3⟩)
 refine Ok.bind (network_ok za hy.1 hy.2) (fun z hz=>?_)
 exact Ok.qP (fun h=>(h hz).elim) (fun _=>Ok.ret ⟨fun h=>(h0 h).elim,fun _=>⟨rfl,rfl,hmis⟩,l3⟩)
theorem solve_resp{m:aS}{e:List ar}(h:e.map (·.bg)=m.f7.map (·.bg))(a:aq):oY ⟨m.db,m.cx,e⟩ a=oY m a:=by
 unfold oY
 simp only [estimates_eq h]
 rfl
theorem same_self{s:aY}(h:s.f5.length<=1000):nf s s=some true:=by
 unfold nf
 rw [same_refl h]
 simp
end Go.Dw.Ed
set_option maxRecDepth 100000
set_option maxHeartbeats 4000000
namespace Go.Dw.Ed
open Go.Dw Go.Proofs
open Sd (mU jz il)
def oi(a b:Pick):Int:=if qU a.a7 b.a7≠0 then qU a.a7 b.a7 else fj a b
theorem cmpE_eq(a b:Pick):iK a b=some (oi a b):=by
 unfold iK
 simp only [Sd.iS,jU,zd,cmp_or2]
 rfl
def z0:Pick:=⟨⟨[],[],[],[]⟩,0,0,0,0,0⟩
def nmF(b:Pick)(l:List Pick):Pick:=l.foldl (fun b x=>if oi x b<0 then x else b) b
def nm:List Pick->Pick
 | []=>z0
 |p::l=>nmF p l
theorem name_at{l:List Pick}(hl:l.length<=1000):mW l=some (nm l):=by
 unfold mW
 cases l with
 |nil=>rw [if_pos sm];rfl
 |cons p l=>
  rw [if_neg so]
  unfold ej
  rw [if_neg so,show pH (p::l) (0:Int)=some p from rfl,zd]
  have key:∀(k i:Nat)(b:Pick),i+k=(p::l).length->oC (cb (p::l)) ((i:Int),b.aA.bd,b.aA.aQ,b.aA.av,b.aA.bh,b.a7,b.aM,b.bv,b.a8,b.bp)=
    some (let c:=nmF b ((p::l).drop i);(c.aA.bd,c.aA.aQ,c.aA.av,c.aA.bh,c.a7,c.aM,c.bv,c.a8,c.bp)):=by
   intro k
   induction k with
   |zero=>
    intro i b hi
    obtain rfl:i=(p::l).length:=by omega
    rw [pK (o:=(b.aA.bd,b.aA.aQ,b.aA.av,b.aA.bh,b.a7,b.aM,b.bv,b.a8,b.bp))]
    ·rw [List.drop_length];rfl
    ·unfold cb
     dsimp only
     rw [if_neg sm]
   |succ k ih=>
    intro i b hi
    have hlt:i<(p::l).length:=by omega
    rw [List.drop_eq_getElem_cons hlt]
    have hbody:cb (p::l) ((i:Int),b.aA.bd,b.aA.aQ,b.aA.av,b.aA.bh,b.a7,b.aM,b.bv,b.a8,b.bp)=
      some (.next (let c:=(if oi (p::l)[i] b<0 then(p::l)[i]else b);(((i+1:Nat):Int),c.aA.bd,c.aA.aQ,c.aA.av,c.aA.bh,c.a7,c.aM,c.bv,c.a8,c.bp))):=by
     unfold cb
     dsimp only
     rw [if_pos (by simp at hlt⊢;omega),pN (i:=i) rfl hlt,zd,cmpE_eq,zd,w64 za (by simp at hlt hl;omega)]
     by_cases h:oi (p::l)[i] b<0
     ·rw [if_pos (by simpa using h),if_pos h,zd];rfl
     ·rw [if_neg (by simpa using h),if_neg h];rfl
    rw [pZ hbody]
    exact ih (i+1) _ za
  have:=key l.length 1 p so
  have h1:(1:Int)=((1:Nat):Int):=rfl
  rw [h1,this]
  rfl
theorem usable1_at{s:aq}(hs:iZ s){v:ap}(hv:iH v){p:Pick}(hp:fQ p):iY s v p=some ((used s v p).1,(used s v p).2.2):=by
 unfold iY
 rw [set_valid hs,zd,if_neg sm,jl hv,zd,if_neg sm,(mf hs hv hp).1]
 rfl
noncomputable def phU (s:aq) (v:ap) (p:Pick):Ph:=(used s v p).1
theorem eusable_at{s:aq}(hs:iZ s){v:ap}(hv:iH v){l L:List Pick}(hL:cQ l=some L)(hl:L.length<=200)(hp:∀p∈L,fQ p):lk s v l=some (b7 s v L,(b7 s v L).map (phU s v),0):=by
 unfold lk
 rw [set_valid hs,zd,if_neg sm,jl hv,zd,if_neg sm,hL,zd]
 have hu:∀i,(b7 s v (L.take i)).length<=i:=fun i=>by
  have:=List.length_filter_le (fun p=>(used s v p).2.2) (L.take i)
  have h2:(L.take i).length<=i:=by rw [List.length_take];omega
  unfold b7;omega
 have:Ok (oC (jZ L s v) ((0:Int),([]:List ae),([]:List al))) (fun o=>o=(b7 s v L,(b7 s v L).map (phU s v))):=by
  refine Ok.loop (fun x:Int×List Pick×List al=>∃i:Nat,i<=L.length∧x=((i:Int),b7 s v (L.take i),(b7 s v (L.take i)).map (phU s v))) (fun x=>((L.length:Int)-x.1).toNat) ?_ ⟨0,Nat.zero_le _,rfl⟩
  rintro x ⟨i,i0,rfl⟩
  unfold jZ
  dsimp only
  refine Ok.pL (fun hlt=>?_) (fun hge=>Ok.st ?_)
  rotate_left
  ·obtain rfl:i=L.length:=by omega
   rw [List.take_length]
  have hi:i<L.length:=by omega
  have hlu:=hu i
  rw [qy za za,zd,pN rfl hi,zd,usable1_at hs hv (hp _ (List.getElem_mem hi)),zd,w64 za za]
  have ht:b7 s v (L.take (i+1))=b7 s v (L.take i)++(if(used s v L[i]).2.2=true then [L[i]]else []):=by
   unfold b7
   rw [qu hi,List.filter_append]
   congr 1
   by_cases h:(used s v L[i]).2.2=true<;>simp [h]
  by_cases h:(used s v L[i]).2.2=true
  ·rw [if_pos h]at ht⊢
   rw [eH so,zd,eH so,zd]
   refine Ok.nx ⟨i+1,hi,?_⟩ zc
   rw [ht]
   simp [phU]
  ·rw [if_neg h]at ht⊢
   refine Ok.nx ⟨i+1,hi,?_⟩ zc
   rw [ht]
   simp
 have hl':=hu L.length
 rw [List.take_length]at hl'
 rw [this.eq,zd]
 dsimp only
 rw [if_neg so]
noncomputable def cmpA (s:aq) (v:ap) (a b:Pick):Int:=if cmpF (phU s v a) (phU s v b)≠0 then cmpF (phU s v a) (phU s v b)else fj a b
theorem nF(s:aq)(v:ap):Tot (cmpA s v):=(cmpF_tot.map (phU s v)).or cr
theorem cmpA_zero{s:aq}{v:ap}{a b:Pick}(h:cmpA s v a b=0):a=b:=by
 unfold cmpA at h
 exact jk (lH h).2
noncomputable def jR (s:aq) (v:ap) (U:List Pick):List Pick:=cH (fun a b=>decide (cmpA s v a b<0)) U
theorem fg{α:Type}{c:α->α->Int}(hc:Tot c)(h0:∀x y,c x y=0->x=y){l:List α}(hl:l.Nodup):(cH (fun x y=>decide (c x y<0)) l).Pairwise (fun x y=>c x y<0):=by
 have h1:=sortI_le hc l
 have h2:(cH (fun x y=>decide (c x y<0)) l).Nodup:=(b8 _ l).nodup_iff.2 hl
 refine(h1.and h2).imp fun{x y}h=>?_
 rcases Int.lt_or_eq_of_le h.1 with h3|h3
 ·exact h3
 ·exact(h.2 (h0 x y h3)).elim
theorem gj{α:Type}{c:α->α->Int}(hc:Tot c){l:List α}(h:l.Pairwise (fun x y=>c x y<0)):l.Nodup:=h.imp fun{x y}h e=>by
 subst e
 have:=hc.refl x
 omega
noncomputable abbrev cP:Pick->Pick->Bool:=fun x y=>decide (fj x y<0)
noncomputable abbrev cE:aD->aD->Bool:=fun x y=>decide (oi x.bV y.bV<0)
noncomputable def nY (s:aq) (v:ap) (O:List Pick):List (List Pick)×List Pick:=rounds s.ai.cN.toNat (nl (fun p=>(phU s v p).aM) s.ai.dn) (mJ s.ai (phU s v)) O.length O
noncomputable def sol (s:aq) (v:ap) (m:List Pick):aY:=((oY (mat s v m) s).getD (⟨[],⟨⟨0,0,0⟩,0,0,0,⟨⟨0,0,0⟩,⟨0,0,0⟩⟩⟩,⟨0,0⟩,0⟩,0)).1
noncomputable def evM (s:aq) (v:ap) (m:List Pick):aD:=⟨nm m,sol s v m⟩
def UsOk(s:aq)(v:ap)(U:List Pick):Prop:=∀p∈U,fQ p∧(used s v p).2.2=true
theorem usable_all{s:aq}{v:ap}{U:List Pick}(h:UsOk s v U):b7 s v U=U:=List.filter_eq_self.2 fun p hp=>(h p hp).2
theorem sort_sorted{m:List Pick}(hm:m.Pairwise fun x y=>fj x y<0)(hl:m.length<=1000):cQ m=some m:=by
 obtain⟨r,e,h1,h2, -⟩:=pa hl
 rw [e,mr h1 hm h2]
theorem solve_group{s:aq}(hs:iZ s){v:ap}(hv:iH v){m:List Pick}(hm:m.Pairwise fun x y=>fj x y<0)(hu:UsOk s v m)(hl:m.length<=19)(h0:m≠ []):fM s v m=some (sol s v m,0)∧(sol s v m).f5=m:=by
 have hg:=gather_at hs hv (sort_sorted hm za) za (fun p hp=>(hu p hp).1)
 rw [usable_all hu]at hg
 obtain⟨r,e, -,h1, -⟩:=solve_ok hs (mat_ok hs hv hl hu)
 obtain⟨h2,h3, -⟩:=h1 (by simpa [mat]using h0)
 obtain⟨r1,r2⟩:=r
 simp only at h2 h3
 subst h2
 have:sol s v m=r1:=by unfold sol;rw [e];rfl
 rw [solve_at hg,e,this]
 exact⟨rfl,h3⟩
theorem PhOk_of{s:aq}(hs:iZ s){v:ap}(hv:iH v){U:List Pick}(hu:UsOk s v U):PhOk s.ai (U.map (phU s v)):=fun b hb=>by
 obtain⟨p,hp,rfl⟩:=List.mem_map.1 hb
 have:=(mf hs hv (hu p hp).1).2 (hu p hp).2
 exact⟨this.ph,this.reach⟩
theorem names_eq(x y:aD):iO ⟨⟩ x y=some (oi x.bV y.bV):=by unfold iO;rw [cmpE_eq];rfl
theorem ins_event{l:List aD}(hn:l.length<=1000):ct 0 (l.length:Int) l=some (cH cE l):=by
 refine Eq.trans (b:=insG (fun x y=>iO ⟨⟩ x y) (fun c=>decide (c<0)) 0 (l.length:Int) l) rfl (insG_at (S:=fun _=>True) (fun x y _ _=>⟨_,names_eq x y,rfl⟩) (fun _ _=>trivial) hn)
theorem sort_event{l:List aD}(hn:l.length<=12):cS l=some (cH cE l):=by
 unfold cS
 obtain⟨b,eb, -⟩:=bits_ok (n:=IntKind.wrap .u64 (l.length:Int)) (u64_range _)
 rw [eb,zd]
 have h1:(oC (bS l.length 0 l b) ())=some (cH cE l):=by
  refine pK ?_
  unfold bS
  rw [w64 za za,if_pos so,ins_event za]
  rfl
 have h2:cp 0 (l.length:Int) b l=some (cH cE l):=by
  unfold cp
  refine BP ⟨1,?_⟩ fun n s hs=>?_
  ·show((oC (bS l.length 0 l b) ()).bind fun o6=>some o6)=_
   rw [h1];rfl
  ·cases n with
   |zero=>cases hs
   |succ n=>
    have hs':((oC (bS l.length 0 l b) ()).bind fun o6=>some o6)=some s:=hs
    rw [h1]at hs'
    exact(Option.some.inj hs').symm
 rw [h2];rfl
theorem nodup_map{α β:Type}{f:α->β}{l:List α}(hl:l.Nodup)(h:∀x∈l,∀y∈l,f x=f y->x=y):(l.map f).Nodup:=by
 unfold List.Nodup at hl⊢
 rw [List.pairwise_map]
 refine List.pairwise_iff_forall_sublist.2 fun{a b}hab e=>?_
 exact List.pairwise_iff_forall_sublist.1 hl hab (h a (hab.subset sm) b (hab.subset sm) e)
theorem nodup_of_map{α β:Type}{f:α->β}{l:List α}(h:(l.map f).Nodup):l.Nodup:=by
 unfold List.Nodup at h⊢
 rw [List.pairwise_map]at h
 exact h.imp fun{a b}hn e=>hn (congrArg f e)
theorem inj_of_map{α β:Type}{f:α->β}:∀{l:List α},(l.map f).Nodup->∀x∈l,∀y∈l,f x=f y->x=y
 | [],_,x,hx,_,_,_=>by cases hx
 |a::l,h,x,hx,y,hy,e=>by
  rw [List.map_cons,List.nodup_cons]at h
  rcases List.mem_cons.1 hx with rfl|hx'
  ·rcases List.mem_cons.1 hy with rfl|hy'
   ·rfl
   ·exact(h.1 (by rw [e];exact List.mem_map_of_mem hy')).elim
  ·rcases List.mem_cons.1 hy with rfl|hy'
   ·exact(h.1 (by rw [<-e];exact List.mem_map_of_mem hx')).elim
   ·exact inj_of_map h.2 x hx' y hy' e
def uAt(U:List Pick)(i:Int):Pick:=U.getD i.toNat z0
theorem uAt_get{U:List Pick}{i:Int}(h0:0<=i)(h1:i<U.length):pH U i=some (uAt U i):=by
 rw [pN (i:=i.toNat) za za]
 unfold uAt
 rw [List.getD_eq_getElem?_getD,ze za];rfl
theorem uAt_mem{U:List Pick}{i:Int}(h0:0<=i)(h1:i<U.length):uAt U i∈U:=by
 unfold uAt
 rw [List.getD_eq_getElem?_getD,ze za]
 exact List.getElem_mem _
theorem uAt_lt{U:List Pick}(hU:U.Pairwise fun x y=>fj x y<0){i k:Int}(h0:0<=i)(h1:i<k)(h2:k<U.length):fj (uAt U i) (uAt U k)<0:=by
 unfold uAt
 rw [List.getD_eq_getElem?_getD,ze za,List.getD_eq_getElem?_getD,ze za]
 exact List.pairwise_iff_getElem.1 hU _ _ _ _ za
theorem uAt_ph{s:aq}{v:ap}{U:List Pick}{i:Int}(h0:0<=i)(h1:i<U.length):nA (U.map (phU s v)) i=phU s v (uAt U i):=by
 unfold nA uAt
 rw [List.getD_eq_getElem?_getD,ze so,List.getD_eq_getElem?_getD,ze za]
 simp
def pk(U:List Pick)(o:List Int)(j:Nat):Pick:=uAt U (fb o j)
theorem ci_strict{l:List Int}(hl:l.Nodup):(cH ci l).Pairwise (· < ·):=(fg re (fun x y h=>vT.1 h) hl).imp fun{x y}h=>by unfold qU at h;repeat' split at h<;>omega
theorem idx_sort{U:List Pick}(hU:U.Pairwise fun x y=>fj x y<0){l:List Int}(hd:l.Nodup)(hl:∀i∈l,0<=i∧i<U.length):(cH ci l).map (uAt U)=cH cP (l.map (uAt U)):=by
 have hl':∀i∈cH ci l,0<=i∧i<U.length:=fun i hi=>hl i ((b8 _ l).mem_iff.1 hi)
 have h1:((cH ci l).map (uAt U)).Pairwise fun x y=>fj x y<0:=by
  rw [List.pairwise_map]
  refine(List.pairwise_iff_forall_sublist.2 fun{a b}hab=>?_)
  have hlt:=List.pairwise_iff_forall_sublist.1 (ci_strict hd) hab
  have ma:=hl' a (hab.subset sm);have mb:=hl' b (hab.subset sm)
  exact uAt_lt hU ma.1 hlt mb.2
 have h2:(l.map (uAt U)).Nodup:=by
  have:=gj cr h1
  refine((b8 ci l).map (uAt U)).nodup_iff.1 this
 refine iQ cr h1 (fg cr (fun _ _=>jk) h2) fun x=>?_
 rw [(b8 cP _).mem_iff,((b8 ci l).map (uAt U)).mem_iff]
theorem pk_sorted{s:aq}{v:ap}{U:List Pick}(hU:U.Pairwise fun x y=>fj x y<0){o:List Int}(ho:mu (U.map (phU s v)) o):(List.range U.length).map (pk U o)=jR s v U:=by
 have e1:(List.range U.length).map (pk U o)=o.map (uAt U):=by
  refine List.ext_getElem (by simp [ho.len]) fun j h1 h2=>?_
  simp only [List.getElem_map,List.getElem_range]
  unfold pk fb
  rw [List.getD_eq_getElem?_getD,ze (by simpa using h2)];rfl
 rw [e1]
 have hm:∀i,i∈o↔0<=i∧i<U.length:=fun i=>by rw [ho.perm.mem_iff,ids_mem,List.length_map]
 have h1:(o.map (uAt U)).Pairwise fun x y=>cmpA s v x y<0:=by
  rw [List.pairwise_map]
  refine(List.pairwise_iff_forall_sublist.2 fun{a b}hab=>?_)
  have hlt:=List.pairwise_iff_forall_sublist.1 ho.lex hab
  have ma:=(hm a).1 (hab.subset sm);have mb:=(hm b).1 (hab.subset sm)
  unfold Lex at hlt
  dsimp only at hlt
  rw [uAt_ph ma.1 ma.2,uAt_ph mb.1 mb.2]at hlt
  unfold cmpA
  rcases hlt with h|⟨h,h'⟩
  ·rw [if_pos za];exact h
  ·rw [if_neg za];exact uAt_lt hU ma.1 h' mb.2
 refine iQ (nF s v) h1 (fg (nF s v) (fun _ _=>cmpA_zero) (gj cr hU)) fun x=>?_
 unfold jR
 rw [(b8 _ U).mem_iff,List.mem_map]
 constructor
 ·rintro⟨i,hi,rfl⟩
  exact uAt_mem ((hm i).1 hi).1 ((hm i).1 hi).2
 ·intro hx
  obtain⟨i,hi,rfl⟩:=List.mem_iff_getElem.1 hx
  refine⟨(i:Int),(hm _).2 ⟨za,za⟩,?_⟩
  unfold uAt
  rw [Int.toNat_natCast,List.getD_eq_getElem?_getD,ze hi];rfl
theorem find_at{s:aq}(hs:iZ s){v:ap}(hv:iH v){l L:List Pick}(hL:cQ l=some L)(hsL:L.Pairwise fun x y=>fj x y<0)(hl:L.length<=200)(hp:∀p∈L,fQ p)(hu:(b7 s v L).length<=19):
  jY s v l=some (cH cE ((nY s v (jR s v (b7 s v L))).1.map fun g=>evM s v (cH cP g)),cH cP (nY s v (jR s v (b7 s v L))).2,0):=by
 have hU:(b7 s v L).Pairwise fun x y=>fj x y<0:=hsL.filter _
 have hus:UsOk s v (b7 s v L):=fun p h=>by
  have:=List.mem_filter.1 h
  exact⟨hp p this.1,this.2⟩
 unfold jY
 rw [eusable_at hs hv hL hl hp,zd,if_neg sm]
 generalize b7 s v L=U at hu hU hus⊢
 have hFl:(U.map (phU s v)).length=U.length:=List.length_map ..
 obtain⟨o,ho,⟨⟨G,Z,e⟩,eA,r1,r2,r3⟩⟩:=associate_at hs (F:=U.map (phU s v)) za (PhOk_of hs hv hus)
 simp only at r1 r2 r3
 subst r1
 rw [eA,zd,if_neg sm]
 rw [hFl]at r2 r3
 have hord:∀j∈List.range U.length,0<=fb o j∧fb o j<U.length:=fun j hj=>by
  have:=ho.range (j:=j) (by rw [hFl];exact List.mem_range.1 hj)
  rw [hFl]at this;exact this
 have hplP:∀j∈List.range U.length,phU s v (pk U o j)=plP (U.map (phU s v)) o j:=fun j hj=>by
  unfold plP pk
  rw [uAt_ph (hord j hj).1 (hord j hj).2]
 have hOnd:((List.range U.length).map (pk U o)).Nodup:=by
  rw [pk_sorted hU ho]
  exact(b8 _ U).nodup_iff.2 (gj cr hU)
 have hinj:∀x∈List.range U.length,∀y∈List.range U.length,pk U o x=pk U o y->x=y:=inj_of_map hOnd
 have hmap := nh (least := s.ai.cN.toNat) (win := nl (fun j => (plP (U.map (phU s v)) o j).aM) s.ai.dn) (mem := mJ s.ai (plP (U.map (phU s v)) o)) (win' := nl (fun p => (phU s v p).aM) s.ai.dn) (mem' := mJ s.ai (phU s v)) (f := pk U o) (List.range U.length) hinj (win_ok _ _ _) U.length (List.range U.length) (List.Sublist.refl _) (fun l' hl' => by
  have h1:∀x∈l',phU s v (pk U o x)=plP (U.map (phU s v)) o x:=fun x hx=>hplP x (hl'.subset hx)
  refine⟨winK_map l' fun x hx=>by rw [h1 x hx],memK_map fun x hx=>h1 x ((pF _ _ l').subset hx)⟩)
 rw [pk_sorted hU ho]at hmap
 have hOl:(jR s v U).length=U.length:=ff _ _
 have hR:nY s v (jR s v U)=((rnd s.ai (U.map (phU s v)) o U.length (List.range U.length)).1.map (List.map (pk U o)),(rnd s.ai (U.map (phU s v)) o U.length (List.range U.length)).2.map (pk U o)):=by
  unfold nY
  rw [hOl];exact hmap
 have hperm:=kI (win_ok s.ai (plP (U.map (phU s v)) o) s.ai.dn) (least:=s.ai.cN.toNat) (by have:=hs.least.1;omega) U.length (List.range U.length) sm List.nodup_range
 have hlen:=oV (win:=nl (fun j=>(plP (U.map (phU s v)) o j).aM) s.ai.dn) (mem:=mJ s.ai (plP (U.map (phU s v)) o)) (least:=s.ai.cN.toNat) U.length (List.range U.length)
 rw [hR]
 generalize hrd:rnd s.ai (U.map (phU s v)) o U.length (List.range U.length)=rd at r2 r3
 have hrd':rounds s.ai.cN.toNat (nl (fun j=>(plP (U.map (phU s v)) o j).aM) s.ai.dn) (mJ s.ai (plP (U.map (phU s v)) o)) U.length (List.range U.length)=rd:=hrd
 rw [hrd']at hperm hlen
 obtain⟨A,B⟩:=rd
 simp only at r2 r3 hperm hlen⊢
 have hmem:∀g∈A,g.Nodup∧g.Sublist A.flatten:=fun g hg=>by
  have h1:g.Sublist A.flatten:=List.sublist_flatten_of_mem hg
  have h2:(A.flatten++B).Nodup:=hperm.nodup_iff.2 List.nodup_range
  exact⟨(List.nodup_append.1 h2).1.sublist h1,h1⟩
 have hin:∀g∈A,∀j∈g,j∈List.range U.length:=fun g hg j hj=>hperm.mem_iff.1 (List.mem_append.2 (.inl ((hmem g hg).2.subset hj)))
 have hinB:∀j∈B,j∈List.range U.length:=fun j hj=>hperm.mem_iff.1 (List.mem_append.2 (.inr hj))
 have hBn:B.Nodup:=by
  have h2:(A.flatten++B).Nodup:=hperm.nodup_iff.2 List.nodup_range
  exact(List.nodup_append.1 h2).2.1
 have ordInj:∀{g:List Nat},g.Nodup->(∀j∈g,j∈List.range U.length)->(g.map (fb o)).Nodup:=fun{g}hg hj=>by
  refine nodup_of_map (f:=uAt U) ?_
  rw [List.map_map]
  exact nodup_map hg fun x hx y hy h=>hinj x (hj x hx) y (hj y hy) h
 have hidx:∀g:List Nat,g.Nodup->(∀j∈g,j∈List.range U.length)->(cH ci (g.map (fb o))).map (uAt U)=cH cP (g.map (pk U o)):=fun g hg hj=>by
  rw [idx_sort hU (ordInj hg hj) (fun i hi=>by obtain⟨j,hj',rfl⟩:=List.mem_map.1 hi;exact hord j (hj j hj')),List.map_map]
  rfl
 have hGm:∀g∈G,∃a∈A,g.cj=cH ci (a.map (fb o)):=fun g hg=>by
  have:g.cj∈G.map (·.cj):=List.mem_map_of_mem hg
  rw [r2]at this
  obtain⟨a,ha,e⟩:=List.mem_map.1 this
  exact⟨a,ha,e.symm⟩
 have hGl:G.length=A.length:=by
  have:=congrArg List.length r2
  simpa using this
 have hfl:A.flatten.length+B.length=U.length:=by
  have:=hperm.length_eq
  simpa using this
 have hAl:2*A.length<=A.flatten.length:=by
  have:∀X:List (List Nat),(∀g∈X,2<=g.length)->2*X.length<=X.flatten.length:=by
   intro X
   induction X with
   |nil=>intro _;simp
   |cons x X ih=>
    intro h
    have:=ih fun g hg=>h g (List.mem_cons_of_mem _ hg)
    have:=h x sm
    rw [List.flatten_cons,List.length_append,List.length_cons];omega
  exact this A fun g hg=>by have:=hlen g hg;have:=hs.least.1;omega
 have hgl:∀a∈A,a.length<=19:=fun a ha=>by have:=(hmem a ha).2.length_le;omega
 have hev:∀g∈G,fM s v (g.cj.map (uAt U))=some (sol s v (g.cj.map (uAt U)),0)∧(sol s v (g.cj.map (uAt U))).f5=g.cj.map (uAt U)∧(g.cj.map (uAt U)).length<=19∧(∀i∈g.cj,0<=i∧i<U.length):=fun g hg=>by
  obtain⟨a,ha,e⟩:=hGm g hg
  have e2:g.cj.map (uAt U)=cH cP (a.map (pk U o)):=by rw [e,hidx a (hmem a ha).1 (hin a ha)]
  have hnd:(a.map (pk U o)).Nodup:=nodup_map (hmem a ha).1 fun x hx y hy h=>hinj x (hin a ha x hx) y (hin a ha y hy) h
  have hl1:(cH cP (a.map (pk U o))).length=a.length:=by rw [ff,List.length_map]
  have h12:=hgl a ha
  have hne:cH cP (a.map (pk U o))≠ []:=fun h=>by
   rw [h]at hl1
   have:=hlen a ha;have:=hs.least.1
   simp at hl1;omega
  obtain ⟨q1, q2⟩ := solve_group hs hv (m := cH cP (a.map (pk U o))) (fg cr (fun _ _ => jk) hnd) (fun p hp' => by
   have:=(b8 cP _).mem_iff.1 hp'
   obtain⟨j,hj,rfl⟩:=List.mem_map.1 this
   have hj':=hord j (hin a ha j hj)
   exact hus _ (uAt_mem hj'.1 hj'.2)) za hne
  rw [e2]
  refine⟨q1,q2,za,fun i hi=>?_⟩
  rw [e]at hi
  obtain⟨j,hj,rfl⟩:=List.mem_map.1 ((b8 ci _).mem_iff.1 hi)
  exact hord j (hin a ha j hj)
 have h27:oC (jB (G,Z,0) (U,U.map (phU s v),0) s v) ((0:Int),([]:List aD))=some (.inl (G.map fun g=>evM s v (g.cj.map (uAt U)))):=by
  refine nQ (l:=G) (f:=fun g=>evM s v (g.cj.map (uAt U))) (g:=fun x=>(Sum.inl x:List aD⊕(List aD×List Pick×Int))) (fun i hi acc ha=>?_) (fun acc ha=>?_)
  ·obtain⟨q1,q2,q3,q4⟩:=hev _ (List.getElem_mem hi)
   unfold jB
   dsimp only
   rw [if_pos so,pN (i:=i) rfl hi,zd]
   have h21:oC (jA G[i] (U,U.map (phU s v),0) (i:Int) acc) ((0:Int),([]:List ae))=some ((i:Int),acc,G[i].cj.map (uAt U)):=by
    refine nQ (l:=G[i].cj) (f:=uAt U) (g:=fun x=>((i:Int),acc,x)) (fun k hk acc' ha'=>?_) (fun acc' ha'=>?_)
    ·have hk':=q4 _ (List.getElem_mem hk)
     rw [List.length_map]at q3
     unfold jA
     dsimp only
     rw [if_pos so,pN (i:=k) rfl hk,zd,uAt_get hk'.1 hk'.2,zd,eH so,zd,w64 za za]
     rfl
    ·unfold jA
     dsimp only
     rw [if_neg sm]
   rw [h21,zd]
   dsimp only
   rw [q1,zd,if_neg sm]
   dsimp only
   rw [q2,name_at za,zd,eH so,zd,w64 za za]
   rfl
  ·unfold jB
   dsimp only
   rw [if_neg sm]
 have h40:oC (jC (G,Z,0) (U,U.map (phU s v),0)) ((0:Int),([]:List ae))=some (Z.map (uAt U)):=by
  have hZ:∀i∈Z,0<=i∧i<U.length:=fun i hi=>by
   rw [r3]at hi
   obtain⟨j,hj,rfl⟩:=List.mem_map.1 ((b8 ci _).mem_iff.1 hi)
   exact hord j (hinB j hj)
  have hZl:Z.length<=19:=by rw [r3,ff,List.length_map];omega
  refine nQ (l:=Z) (f:=uAt U) (g:=fun x=>x) (fun k hk acc ha=>?_) (fun acc ha=>?_)
  ·have hk':=hZ _ (List.getElem_mem hk)
   unfold jC
   dsimp only
   rw [if_pos so,pN (i:=k) rfl hk,zd,uAt_get hk'.1 hk'.2,zd,eH so,zd,w64 za za]
   rfl
  ·unfold jC
   dsimp only
   rw [if_neg sm]
 rw [h27,zd]
 dsimp only
 rw [sort_event (by rw [List.length_map];omega),zd,h40,zd]
 have e1:G.map (fun g=>evM s v (g.cj.map (uAt U)))=(A.map (List.map (pk U o))).map fun g=>evM s v (cH cP g):=by
  have:G.map (fun g=>evM s v (g.cj.map (uAt U)))=(G.map (·.cj)).map fun is=>evM s v (is.map (uAt U)):=by rw [List.map_map];rfl
  rw [this,r2,List.map_map,List.map_map]
  refine List.map_congr_left fun g hg=>?_
  simp only [Function.comp]
  rw [hidx g (hmem g hg).1 (hin g hg)]
 have e2:Z.map (uAt U)=cH cP (B.map (pk U o)):=by rw [r3,hidx B hBn hinB]
 rw [e1,e2]
end Go.Dw.Ed
set_option maxRecDepth 100000
set_option maxHeartbeats 4000000
namespace Go.Dw.Ed
open Go.Dw Go.Proofs
open Sd (mU jz il)
end Go.Dw.Ed
set_option maxRecDepth 100000
set_option maxHeartbeats 4000000
namespace Go.Dw.Ed
open Go.Dw Go.Proofs
open Sd (mU jz il)
noncomputable def fE (s:aq) (v:ap) (U:List Pick):List aD:=cH cE ((nY s v (jR s v U)).1.map fun g=>evM s v (cH cP g))
noncomputable def fR (s:aq) (v:ap) (U:List Pick):List Pick:=cH cP (nY s v (jR s v U)).2
structure Gr(s:aq)(v:ap)(U g:List Pick):Prop where
 least:s.ai.cN.toNat<=g.length
 len:g.length<=U.length
 nd:g.Nodup
 sub:∀p∈g,p∈U
 picks:(evM s v (cH cP g)).aL.f5=cH cP g
 asc:(cH cP g).Pairwise fun x y=>fj x y<0
theorem lZ{s:aq}(hs:iZ s){v:ap}{U:List Pick}(hU:U.Pairwise fun x y=>fj x y<0):((nY s v (jR s v U)).1.flatten++(nY s v (jR s v U)).2).Perm U:=by
 have hnd:=gj cr hU
 have hO:(jR s v U).Nodup:=(b8 _ U).nodup_iff.2 hnd
 exact(kI (win_ok s.ai (phU s v) s.ai.dn) (least:=s.ai.cN.toNat) (by have:=hs.least.1;omega) (jR s v U).length (jR s v U) (Nat.le_refl _) hO).trans (b8 _ U)
theorem group_at{s:aq}(hs:iZ s){v:ap}(hv:iH v){U:List Pick}(hU:U.Pairwise fun x y=>fj x y<0)(hus:UsOk s v U)(hl:U.length<=19){g:List Pick}(hg:g∈(nY s v (jR s v U)).1):Gr s v U g:=by
 have hperm:=lZ hs (v:=v) hU
 have hnd:=gj cr hU
 have h1:g.Sublist (nY s v (jR s v U)).1.flatten:=List.sublist_flatten_of_mem hg
 have h2:=hperm.nodup_iff.2 hnd
 have hgn:g.Nodup:=(List.nodup_append.1 h2).1.sublist h1
 have hsub:∀p∈g,p∈U:=fun p hp=>hperm.mem_iff.1 (List.mem_append.2 (.inl (h1.subset hp)))
 have hleast:=oV (win:=nl (fun p=>(phU s v p).aM) s.ai.dn) (mem:=mJ s.ai (phU s v)) (least:=s.ai.cN.toNat) (jR s v U).length (jR s v U) g hg
 have hlen:g.length<=U.length:=by
  have:=hperm.length_eq
  rw [List.length_append]at this
  have:=h1.length_le
  omega
 have hasc:=fg cr (fun _ _=>jk) hgn
 refine⟨hleast,hlen,hgn,hsub,?_,hasc⟩
 refine(solve_group hs hv hasc (fun p hp=>hus p (hsub p ((b8 _ g).mem_iff.1 hp))) (by rw [ff];omega) fun h=>?_).2
 have:=ff cP g
 rw [h]at this
 have:=hs.least.1
 simp at*
 omega
theorem fE_mem{s:aq}{v:ap}{U:List Pick}{e:aD}:e∈fE s v U↔∃g∈(nY s v (jR s v U)).1,e=evM s v (cH cP g):=by
 unfold fE
 rw [(b8 _ _).mem_iff,List.mem_map]
 exact⟨fun⟨g,h,e⟩=>⟨g,h,e.symm⟩,fun⟨g,h,e⟩=>⟨g,h,e.symm⟩⟩
theorem same_events{l:List aD}(hl:l.length<=1000)(h:∀e∈l,e.aL.f5.length<=1000):lQ l l=some true:=by
 have hb:∀i:Nat,i<l.length->hC l l (i:Int)=some (.next ((i+1:Nat):Int)):=fun i hi=>by
  unfold hC
  rw [if_pos so,pN (i:=i) rfl hi,zd,zd,if_neg sm,zd,zd,same_self (h _ (List.getElem_mem hi)),zd,if_neg sm,w64 za za]
  rfl
 have he:hC l l ((l.length:Nat):Int)=some (.stop (.inl ())):=by
  unfold hC
  rw [if_neg sm]
 unfold lQ
 rw [if_neg sm,jm l.length hb he]
 rfl
theorem fE_len{s:aq}(hs:iZ s){v:ap}{U:List Pick}(hU:U.Pairwise fun x y=>fj x y<0):(fE s v U).length<=U.length:=by
 unfold fE
 rw [ff,List.length_map]
 have hperm:=(lZ hs (v:=v) hU).length_eq
 have hlen:=oV (win:=nl (fun p=>(phU s v p).aM) s.ai.dn) (mem:=mJ s.ai (phU s v)) (least:=s.ai.cN.toNat) (jR s v U).length (jR s v U)
 have key:∀X:List (List Pick),(∀g∈X,1<=g.length)->X.length<=X.flatten.length:=by
  intro X
  induction X with
  |nil=>intro _;simp
  |cons x X ih=>
   intro h
   have:=ih fun g hg=>h g (List.mem_cons_of_mem _ hg)
   have:=h x sm
   rw [List.flatten_cons,List.length_append,List.length_cons];omega
 have:=key (nY s v (jR s v U)).1 fun g hg=>by have:=hlen g hg;have:=hs.least.1;omega
 rw [List.length_append]at hperm
 omega
theorem fR_len{s:aq}(hs:iZ s){v:ap}{U:List Pick}(hU:U.Pairwise fun x y=>fj x y<0):(fR s v U).length<=U.length:=by
 unfold fR
 rw [ff]
 have hperm:=(lZ hs (v:=v) hU).length_eq
 rw [List.length_append]at hperm
 omega
theorem find_ok{s:aq}(hs:iZ s){v:ap}(hv:iH v){l:List Pick}(hl:l.length<=19)(hp:∀p∈l,fQ p):∃L,cQ l=some L∧L.Pairwise (fun x y=>fj x y<0)∧(∀x,x∈L↔x∈l)∧L.length<=l.length∧
  (b7 s v L).Pairwise (fun x y=>fj x y<0)∧UsOk s v (b7 s v L)∧(b7 s v L).length<=l.length∧jY s v l=some (fE s v (b7 s v L),fR s v (b7 s v L),0):=by
 obtain⟨L,e,h1,h2,h3⟩:=pa (l:=l) za
 have hu:(b7 s v L).length<=L.length:=List.length_filter_le _ _
 exact⟨L,e,h1,h2,h3,h1.filter _,fun p h=>⟨hp p ((h2 p).1 (List.mem_filter.1 h).1),(List.mem_filter.1 h).2⟩,za,find_at hs hv e h1 za (fun p h=>hp p ((h2 p).1 h)) za⟩
theorem found_same{s:aq}(hs:iZ s){v:ap}(hv:iH v){U:List Pick}(hU:U.Pairwise fun x y=>fj x y<0)(hus:UsOk s v U)(hl:U.length<=19):lQ (fE s v U) (fE s v U)=some true∧eS (fR s v U) (fR s v U)=some true:=by
 have h1:=fE_len hs (v:=v) hU;have h2:=fR_len hs (v:=v) hU
 refine⟨same_events za fun e he=>?_,same_refl za⟩
 obtain⟨g,hg,rfl⟩:=fE_mem.1 he
 have:=group_at hs hv hU hus hl hg
 rw [this.picks,ff]
 have:=this.len
 omega
end Go.Dw.Ed
