
import Derived.Test.YtmmgjlgoggielaaGreatElLawEJ

set_option maxRecDepth 100000
set_option maxHeartbeats 4000000
namespace Go.Dw.El
open Go.Dw Go.Proofs
open Sd (ld f5 fh)
theorem mod1{α:Type}(A:List α)(y:α)(T:List α){n:Int}{f:α->α}(hn:n=A.length):xq (A++y::T) n f=some (A++f y::T):=by
 subst hn
 obtain⟨r,e,x,hx,hr⟩:=Ok.mod (l:=A++y::T) (n:=(A.length:Int)) (f:=f) za so
 rw [e,hr]
 have:x=y:=by simpa using hx.symm
 subst this
 simp
def lk(p:Pick):Pick:=⟨p.aD,p.aX+50000,p.aM+50000,p.bf+50000,p.aP,p.aT⟩
theorem later_loop{x5:List Pick×ac}(hl:x5.1.length<=100)(hp:∀p∈x5.1,PickLo p):py (io x5) ((0:Int),x5.1)=some (x5.1.map lk):=by
 refine Ok.eq (Ok.loop (fun z:Int×List Pick=>∃k:Nat,z.1=(k:Int)∧k<=x5.1.length∧z.2=(x5.1.take k).map lk++x5.1.drop k) (fun z=>((x5.1.length:Int)-z.1).toNat) ?_ ⟨0,rfl,Nat.zero_le _,sm⟩)
 rintro⟨z,m⟩ ⟨k,h0,h1,h2⟩
 simp only at h0 h2
 subst h0 h2
 unfold io
 dsimp only
 refine Ok.qz (fun hlt=>?_) (fun hge=>Ok.st ?_)
 rotate_left
 ·obtain rfl:k=x5.1.length:=by omega
  simp
 have hk:k<x5.1.length:=by omega
 have htl:((x5.1.take k).map lk).length=k:=by rw [List.length_map,List.length_take];omega
 obtain⟨⟨p0,p1,p2,p3,p4, -⟩,p5⟩:=hp _ (List.getElem_mem hk)
 have hin:∀y:Pick,inO ((x5.1.take k).map lk++y::x5.1.drop (k+1)) (k:Int)=some ():=fun y=>rY za (by rw [List.length_append,htl];simp;omega)
 have hget:∀y:Pick,qu ((x5.1.take k).map lk++y::x5.1.drop (k+1)) (k:Int)=some y:=fun y=>get1 _ _ _ (by rw [htl])
 rw [List.drop_eq_getElem_cons hk]
 simp only [hin,hget,zd,mod1 _ _ _ (show(k:Int)=(((x5.1.take k).map lk).length:Int)by rw [htl])]
 rw [w64 za za,w64 za za,w64 za za,w64 za za]
 refine Ok.nx ⟨k+1,rfl,hk,?_⟩ zc
 simp only
 rw [rE hk,List.map_append,List.append_assoc]
 rfl
theorem later_ok{p:Pick}(h:PickLo p):gY (lk p)∧50000<=(lk p).aM:=by
 obtain⟨⟨p0,p1,p2,p3,p4,p6,p7,p8,p9⟩,p5⟩:=h
 exact⟨⟨p0,by simp only [lk];omega,by simp only [lk];omega,by simp only [lk];omega,by simp only [lk];omega,p6,p7,p8,p9⟩,by simp only [lk];omega⟩
theorem early_cmpF{a b:Ph}(h:a.aM<b.aM):cmpF a b<0:=by
 unfold cmpF
 have:rR a.aM b.aM= -1:=by unfold rR;rw [if_pos h]
 rw [this];simp
theorem EventLocal_law(a0:List Int):kF a0=some true:=by
 refine Ok.eq ?_
 unfold kF
 refine Ok.bind (new_ok a0) (fun x1 h1=>?_)
 refine Ok.bind ((settingsV (k:=3) za x1 h1).both (settings_ok (k:=3) za x1 h1)) (fun x2⟨⟨ha,h2⟩,hset,_⟩=>?_)
 refine Ok.bind (sitesV (n:=6) x2.2 h2) (fun x3⟨⟨hv,hv2⟩,h3⟩=>?_)
 refine Ok.bind (picks_lo x2.1 hset x3.1 hv.inv 7 za x3.2 h3) (fun x4⟨⟨l4,p4⟩,h4⟩=>?_)
 refine Ok.bind (picks_lo x2.1 hset x3.1 hv.inv 7 za x4.2 h4) (fun x5⟨⟨l5,p5⟩,h5⟩=>?_)
 rw [later_loop za p5,zd]
 have hq:∀p∈x5.1.map lk,gY p∧50000<=p.aM:=fun p hp=>by
  obtain⟨y,hy,rfl⟩:=List.mem_map.1 hp
  exact later_ok (p5 y hy)
 have hql:(x5.1.map lk).length<=7:=by rw [List.length_map];exact l5
 generalize x5.1.map lk=Q at hq hql⊢
 have hb:∀p∈x4.1++Q,gY p:=fun p hp=>(List.mem_append.1 hp).elim (fun h=>(p4 p h).1) (fun h=>(hq p h).1)
 obtain⟨L,eL,sL,mL,nL,hU,hus,hUl,hf⟩:=find_ok ha hv (l:=x4.1) za (fun p h=>(p4 p h).1)
 obtain⟨M,eM,sM,mM,nM,hV,hvs,hVl,hg⟩:=find_ok ha hv (l:=Q) za (fun p h=>(hq p h).1)
 obtain⟨N,eN,sN,mN,nN,hW,hws,hWl,hh⟩:=find_ok ha hv (l:=x4.1++Q) (by rw [List.length_append];omega) hb
 rw [List.length_append]at hWl
 have mU:∀p,p∈bK x2.1 x3.1 L↔p∈x4.1∧(used x2.1 x3.1 p).2.2=true:=fun p=>by unfold bK;rw [List.mem_filter,mL]
 have mV:∀p,p∈bK x2.1 x3.1 M↔p∈Q∧(used x2.1 x3.1 p).2.2=true:=fun p=>by unfold bK;rw [List.mem_filter,mM]
 have mW:∀p,p∈bK x2.1 x3.1 N↔p∈bK x2.1 x3.1 L∨p∈bK x2.1 x3.1 M:=fun p=>by
  rw [mU,mV]
  unfold bK
  rw [List.mem_filter,mN,List.mem_append]
  constructor
  ·rintro⟨h|h,h'⟩
   ·exact .inl ⟨h,h'⟩
   ·exact .inr ⟨h,h'⟩
  ·rintro(⟨h,h'⟩|⟨h,h'⟩)
   ·exact⟨.inl h,h'⟩
   ·exact⟨.inr h,h'⟩
 have eU:∀p∈bK x2.1 x3.1 L,(phU x2.1 x3.1 p).aM<=40000:=fun p hp=>by
  obtain⟨e, -,h⟩:=pf ha hv (hus p hp).1 (hus p hp).2
  have hlo:=p4 p ((mU p).1 hp).1
  obtain⟨⟨q0,q1,q2,q3, -⟩,q5⟩:=hlo
  rw [h];simp only;omega
 have eV:∀p∈bK x2.1 x3.1 M,50000<=(phU x2.1 x3.1 p).aM:=fun p hp=>by
  obtain⟨e, -,h⟩:=pf ha hv (hvs p hp).1 (hvs p hp).2
  rw [h]
  exact(hq p ((mV p).1 hp).1).2
 have hws19:(bK x2.1 x3.1 N).length<=19:=by omega
 have hok:=found_ok ha hv hW hws hws19
 have hokU:=found_ok ha hv hU hus za
 have hokV:=found_ok ha hv hV hvs za
 have hfs:=found_same ha hv hW hws hws19
 rw [hf,zd,hg,zd,ei za,zd,hh,zd,if_pos sm,if_pos sm,if_pos sm]
 generalize bK x2.1 x3.1 L=U at*
 generalize bK x2.1 x3.1 M=V at*
 generalize bK x2.1 x3.1 N=W at*
 have hOu:(e9 x2.1 x3.1 U).Pairwise fun x y=>cmpA x2.1 x3.1 x y<0:=eK (lc _ _) (fun _ _=>nh) (dy ca hU)
 have hOv:(e9 x2.1 x3.1 V).Pairwise fun x y=>cmpA x2.1 x3.1 x y<0:=eK (lc _ _) (fun _ _=>nh) (dy ca hV)
 have hOw:(e9 x2.1 x3.1 W).Pairwise fun x y=>cmpA x2.1 x3.1 x y<0:=eK (lc _ _) (fun _ _=>nh) (dy ca hW)
 have oU:∀p,p∈e9 x2.1 x3.1 U↔p∈U:=fun p=>(bN _ U).mem_iff
 have oV:∀p,p∈e9 x2.1 x3.1 V↔p∈V:=fun p=>(bN _ V).mem_iff
 have oW:∀p,p∈e9 x2.1 x3.1 W↔p∈W:=fun p=>(bN _ W).mem_iff
 have hO:e9 x2.1 x3.1 W=e9 x2.1 x3.1 U++e9 x2.1 x3.1 V:=by
  refine gW (lc x2.1 x3.1) hOw (List.pairwise_append.2 ⟨hOu,hOv,fun x hx y hy=>?_⟩) fun p=>by rw [oW,mW,List.mem_append,oU,oV]
  have a1:=eU x ((oU x).1 hx);have a2:=eV y ((oV y).1 hy)
  have:=early_cmpF (a:=phU x2.1 x3.1 x) (b:=phU x2.1 x3.1 y) za
  unfold cmpA
  rw [if_pos za];exact this
 have hspan:=ha.span
 have hnd:=dy (lc x2.1 x3.1) hOw
 have hR:m8 x2.1 x3.1 (e9 x2.1 x3.1 W)=((m8 x2.1 x3.1 (e9 x2.1 x3.1 U)).1++(m8 x2.1 x3.1 (e9 x2.1 x3.1 V)).1,(m8 x2.1 x3.1 (e9 x2.1 x3.1 U)).2++(m8 x2.1 x3.1 (e9 x2.1 x3.1 V)).2):=by
  have hle:=ha.least.1
  have h1 := m9 (pX x2.1.ai (phU x2.1 x3.1) x2.1.ai.dF) (least := x2.1.ai.cv.toNat) za (e9 x2.1 x3.1 W).length (e9 x2.1 x3.1 U) (e9 x2.1 x3.1 V) (by rw [hO]; exact Nat.le_refl _) (by rw [← hO]; exact hnd) (fun C' hC hC0 => win_part hspan.1 hC0 fun x hx y hy => by
   have a1:=eU x ((oU x).1 (hC.subset hx));have a2:=eV y ((oV y).1 hy)
   omega)
  have e1:=lp (pX x2.1.ai (phU x2.1 x3.1) x2.1.ai.dF) (least:=x2.1.ai.cv.toNat) za (e9 x2.1 x3.1 W).length (e9 x2.1 x3.1 U).length (e9 x2.1 x3.1 U) (by rw [hO,List.length_append];omega) (Nat.le_refl _)
  have e2:=lp (pX x2.1.ai (phU x2.1 x3.1) x2.1.ai.dF) (least:=x2.1.ai.cv.toNat) za (e9 x2.1 x3.1 W).length (e9 x2.1 x3.1 V).length (e9 x2.1 x3.1 V) (by rw [hO,List.length_append];omega) (Nat.le_refl _)
  rw [e1,e2, <-hO]at h1
  exact h1
 have hE:(fE x2.1 x3.1 U++fE x2.1 x3.1 V).Perm (fE x2.1 x3.1 W):=by
  unfold fE
  rw [hR]
  simp only
  rw [List.map_append]
  exact((bN _ _).append (bN _ _)).trans (bN _ _).symm
 have hnames:((fE x2.1 x3.1 U++fE x2.1 x3.1 V).map (·.aZ)).Nodup:=by
  refine(hE.map _).nodup_iff.2 ?_
  have:(fE x2.1 x3.1 W).Pairwise fun x y=>x.aZ≠y.aZ:=hok.asc.imp fun{x y}h e=>by
   rw [e]at h
   have:=jU.refl y.aZ
   omega
  unfold List.Nodup
  rw [List.pairwise_map]
  exact this
 obtain⟨m,e1,e2,e3⟩:=join_at hokU.asc hnames (by rw [hE.length_eq];exact hok.len)
 have hm:m=fE x2.1 x3.1 W:=gW (c:=fun x y:au=>jK x.aZ y.aZ) (jU.map fun e:au=>e.aZ) e3 hok.asc fun e=>(e2.trans hE).mem_iff
 rw [e1,zd,hm,hfs.1,zd,if_pos rfl,awake_at]
 exact Ok.ret rfl
end Go.Dw.El
