
import Derived.Test.YtmmgjlgoggielaaGreatEkLawRT
import Derived.Test.YtmmgjlgoggielaaGreatEkCo
import Derived.KernelRfl

set_option maxRecDepth 100000
set_option maxHeartbeats 4000000
namespace Go.Dw.Ek
open Go.Dw Go.Proofs
open Sd (kD e9 ev)
def Cv(c:az):Prop:=∃e,∀T:Int,2000<=T->T<100000->epIn c.bM T=some e
theorem epIn1{e:av}{T:Int}(h1:e.bp<=T)(h2:T<e.fTo):epIn [e] T=some e:=by
 unfold epIn
 rw [List.find?_cons_of_pos (by simp [h1,h2])]
theorem epIn2{e f:av}{T:Int}(h:e.fTo<=T)(h1:f.bp<=T)(h2:T<f.fTo):epIn [e,f] T=some f:=by
 unfold epIn
 rw [List.find?_cons_of_neg so,List.find?_cons_of_pos (by simp [h1,h2])]
def CvI(n:Nat)(s:Int×List Int×Int×List az):Prop:=∃i:Nat,s.1=i∧i<=n∧s.2.2.2.map (·.aD)=(List.range i).map sid∧(∀c∈s.2.2.2,Cv c)∧b7 ⟨s.2.1,s.2.2.1⟩
theorem sites_cover{n:Nat}(hn6:n<=6)(d:Src)(hd:b7 d):Ok (fk (n:Int) d) (fun r=>r.1.aT.map (·.aD)=(List.range n).map sid∧∀c∈r.1.aT,Cv c):=by
 unfold fk
 refine Ok.bind (P:=fun o=>o.2.2.map (·.aD)=(List.range n).map sid∧∀c∈o.2.2,Cv c) (Ok.loop (CvI n) (fun s=>((n:Int)-s.1).toNat) ?_ ⟨0,rfl,za,rfl,sm,hd⟩) (fun o ho=>Ok.ret ho)
 rintro⟨s1,s2,s3,s4⟩ ⟨i,i0,i1,i2,i3,i4⟩
 simp only at i0 i1 i2 i3 i4
 subst i0
 have hlen:s4.length=i:=by have:=congrArg List.length i2;simpa using this
 unfold gQ
 have happ:∀(x:az),Ok (nJ s4 [x] 88) (fun r=>r=s4++[x]):=fun x=>Ok.app (by simp only [List.length_cons,List.length_nil];omega)
 have hend:¬i<n->s4.map (·.aD)=(List.range n).map sid∧∀c∈s4,Cv c:=fun h=>by
  obtain rfl:i=n:=by omega
  exact⟨i2,i3⟩
 have hnext:∀{l:List av}{t:Src},i<n->(∃e,∀T:Int,2000<=T->T<100000->epIn l T=some e)->b7 t->Ok (some (.next ((i:Int)+1,t.fL,t.fAt,s4++[⟨sid i,l⟩]))) (Ok.S (CvI n) (fun s=>((n:Int)-s.1).toNat) (fun o:List Int×Int×List az=>o.2.2.map (·.aD)=(List.range n).map sid∧∀c∈o.2.2,Cv c) ((i:Int),s2,s3,s4)):=fun{l t}hi hl ht=>by
  refine Ok.nx ⟨i+1,sm,za,?_,fun c hc=>?_,ht⟩ zc
  ·simp [List.range_succ,i2]
  ·simp only [List.mem_append,List.mem_singleton]at hc
   rcases hc with hc|rfl
   ·exact i3 c hc
   ·exact hl
 refine Ok.gC (fun hlt=>?_) (fun h=>Ok.st (hend za))
 refine Ok.gC (fun _=>?_) (fun h=>Ok.st (hend za))
 have hi:i<n:=by omega
 refine Ok.bind (lx 60 za za _ i4) (fun y1 g1=>?_)
 refine Ok.bind (pf _ g1.2) (fun y2 g2=>?_)
 rw [source_at rfl (show i<6 by omega),zd]
 refine Ok.bind (dw _ _ g2.2 za za) (fun y4 g4=>?_)
 rw [w64 (n:=(i:Int)+1) za za]
 refine Ok.rN (fun _=>?_) (fun _=>Ok.rN (fun _=>?_) (fun _=>?_))
 ·refine Ok.bind (dw _ _ g4.2.2 za za) (fun y5 g5=>?_)
  refine Ok.bind (lx 60 za za _ g5.2.2) (fun y6 g6=>?_)
  refine Ok.bind (pf _ g6.2) (fun y7 g7=>?_)
  refine Ok.bind (Ok.rK za sm) (fun _ _=>?_)
  refine Ok.bind (Ok.mod za sm) (fun y8 g8=>?_)
  obtain⟨x,hx,rfl⟩:=g8
  simp at hx
  subst hx
  refine Ok.bind (Ok.app sm) (fun y9 g9=>?_)
  subst g9
  refine Ok.bind (happ _) (fun y10 g10=>?_)
  subst g10
  rw [w64 (n:=1500+y5.1) za za]
  exact hnext hi ⟨_,fun T h1 h2=>epIn2 zc zc zc⟩ g7.2
 ·refine Ok.bind (dw _ _ g4.2.2 za za) (fun y5 g5=>?_)
  refine Ok.bind (Ok.rK za sm) (fun _ _=>?_)
  refine Ok.bind (Ok.mod za sm) (fun y8 g8=>?_)
  obtain⟨x,hx,rfl⟩:=g8
  simp at hx
  subst hx
  refine Ok.bind (happ _) (fun y10 g10=>?_)
  subst g10
  exact hnext hi ⟨_,fun T h1 h2=>epIn1 zc zc⟩ g5.2.2
 ·refine Ok.bind (happ _) (fun y10 g10=>?_)
  subst g10
  exact hnext hi ⟨_,fun T h1 h2=>epIn1 zc zc⟩ g4.2.2
theorem site_at{n:Nat}{v:ar}(hm:v.aT.map (·.aD)=(List.range n).map sid)(hc:∀c∈v.aT,Cv c){i:Nat}(hi:i<n):∃c e,chan v (sid i)=some c∧(∀T:Int,2000<=T->T<100000->epIn c.bM T=some e):=by
 have hmem:sid i∈v.aT.map (·.aD):=by rw [hm];exact List.mem_map_of_mem (List.mem_range.2 hi)
 obtain⟨c,hc',e'⟩:=List.mem_map.1 hmem
 cases h:chan v (sid i)with
 |none=>
  unfold chan at h
  have:=List.find?_eq_none.1 h c hc'
  simp [e']at this
 |some c2=>
  obtain⟨e,he⟩:=hc c2 (chan_mem h).1
  exact⟨c2,e,rfl,he⟩
theorem reach_all{t:aI}(ht:oi t){b:ai}(hb:fu b){p:aa}(hp:eD 60 p):Reach t (mY b p):=by
 have h1:=(Far_at hb hp).2.2
 have h2:=ht.far
 have h3:(400:Int)*400<=lJ t*lJ t:=Int.mul_le_mul h2 h2 za (by unfold lJ;omega)
 unfold Reach
 omega
theorem used_true{a:ap}(ha:iH a){v:ar}(hv:kH v){p:Pick}(hp:ik p){e:av}(he:epAt v p.aD p.aX=some e):(used a v p).2.2=true∧phU a v p=⟨e.bj,p.aK,p.bf,1⟩:=by
 have hu:(used a v p).2.2=true:=by
  have h1:=(mc ha hv hp).1
  have hek:=epAt_ok hv he
  unfold cO at h1
  rw [pX hp,zd,if_neg sm,At_eq hv.lens (mh hv),zd,he]at h1
  dsimp only at h1
  rw [if_neg sm]at h1
  obtain⟨z,ez,hz, -⟩:=qv ha.tab ha.box (a:=⟨e.bj,p.aK,p.bf,1⟩) (qo hek hp)
  rw [ez,zd,if_neg (by simp [hz.2 (reach_all ha.tab ha.box hek.pos)])]at h1
  rw [<-Option.some.inj h1]
 obtain⟨e',h1,h2⟩:=used_form ha hv hp hu
 obtain rfl:e'=e:=Option.some.inj (h1.symm.trans he)
 exact⟨hu,h2⟩
def exP(s:Sid):Pick:=⟨s,2500,2500,2500,10,0⟩
def exQ(s:Sid):Pick:=⟨s,2500,2500,2500,11,0⟩
theorem ex_c:((nP []).bind fun x1=>(jT 2 x1).bind fun x2=>some (x2.1.ah.cw==2))=some true:=by kernel_rfl
theorem ex_p:((kk []).bind fun x1=>(dy 2 x1).bind fun x2=>some (x2.1.ah.cw==2))=some true:=
 (Le.bind (keep_New_le _) fun _=>Le.bind (Src_Settings_le _ _) fun _=>Le.refl _) _ ex_c
theorem exP_ok{s:Sid}(h:IsSid s):ik (exP s):=⟨h,by simp [exP],by simp [exP],by simp [exP],by simp [exP],by simp [exP],by simp [exP],by simp [exP],by simp [exP]⟩
theorem exQ_ok{s:Sid}(h:IsSid s):ik (exQ s):=⟨h,by simp [exQ],by simp [exQ],by simp [exQ],by simp [exQ],by simp [exQ],by simp [exQ],by simp [exQ],by simp [exQ]⟩
theorem ex_lt(s:Sid):c9 (exP s) (exQ s)<0:=by
 have:=e9.refl s
 unfold c9 exP exQ
 simp [this,qF]
theorem awake_at:mM=some true:=by
 refine Ok.eq ?_
 have hc:=ex_p
 unfold mM
 obtain⟨d0,e0,h0⟩:=new_ok []
 rw [e0,zd]at hc⊢
 obtain⟨x2,e2,hs,h2⟩:=settingsV (k:=2) za d0 h0
 rw [e2,zd]at hc⊢
 have hle:x2.1.ah.cw=2:=by simpa using Option.some.inj hc
 obtain⟨x3,e3,⟨⟨hv, -⟩, -⟩,hmap,hcov⟩:=(sitesV (n:=3) x2.2 h2).both (sites_cover (n:=3) za x2.2 h2)
 rw [e3,zd]
 obtain⟨c,e,hch,hep⟩:=site_at hmap hcov (i:=1) za
 have hea:epAt x3.1 (sid 1) 2500=some e:=by unfold epAt;rw [hch];exact hep 2500 za za
 have h5:=sid_ok (i:=1) za
 rw [show dN (1:Int)=some (sid 1)from source_at (i:=1) rfl za,zd]
 have hp:=exP_ok h5;have hq:=exQ_ok h5
 have up:=(used_true hs hv hp hea).1
 have uq:=(used_true hs hv hq hea).1
 clear hea hep hch hmap hcov
 generalize sid 1=x5 at*
 have hlt:=ex_lt x5
 have hpq: [exP x5,exQ x5].Pairwise fun x y=>c9 x y<0:=by simpa using hlt
 have hus:UsOk x2.1 x3.1 [exP x5,exQ x5]:=fun p h=>by
  rcases List.mem_cons.1 h with rfl|h
  ·exact⟨hp,up⟩
  ·rw [List.mem_singleton.1 h];exact⟨hq,uq⟩
 have hU:=n8 hus
 obtain⟨L,eL,sL,mL, -⟩:=p8 (l:=[exQ x5,exP x5]) sm
 have hL:L=[exP x5,exQ x5]:=jm sL hpq fun x=>by
  rw [mL];simp only [List.mem_cons,List.not_mem_nil,or_false];exact Or.comm
 subst hL
 have hf:=find_at hs hv eL hpq sm (fun p h=>(hus p h).1) (by rw [hU];simp)
 rw [hU]at hf
 obtain⟨e,g1,g2⟩:=used_form hs hv hp up
 obtain⟨e',g1',g2'⟩:=used_form hs hv hq uq
 obtain rfl:e'=e:=Option.some.inj (g1'.symm.trans g1)
 have hph:phU x2.1 x3.1 (exQ x5)=phU x2.1 x3.1 (exP x5):=by rw [g2,g2'];rfl
 have hO:dq x2.1 x3.1 [exP x5,exQ x5]=[exP x5,exQ x5]:=by
  refine sortI_self (jW _ _) (fun _ _=>nk) ?_
  have:cmpA x2.1 x3.1 (exP x5) (exQ x5)<0:=by
   have:=cmpF_tot.refl (phU x2.1 x3.1 (exP x5))
   unfold cmpA
   rw [hph,this,if_neg sm];exact hlt
  simpa using this
 rw [hO]at hf
 have hphs:PhOk x2.1.ah ([exP x5,exQ x5].map (phU x2.1 x3.1)):=PhOk_of hs hv hus
 have hmis:(loc x2.1.ah ([exP x5,exQ x5].map (phU x2.1 x3.1))).bh<=0:=by
  have hqv:=prob_ok hs hphs sm
  obtain⟨-,hL, -⟩:=loc_at hs hphs sm
  obtain⟨t,e1, -⟩:=oJ hqv hL.inn
  rw [hL.val]at e1
  simp only [Option.some.injEq,Prod.mk.injEq]at e1
  rw [e1.2.1]
  have hz:=fun b hb=>(zn_at hqv hL.inn (a:=b) hb).2
  have hmem:phU x2.1 x3.1 (exP x5)∈(oq x2.1.ah ([exP x5,exQ x5].map (phU x2.1 x3.1))).ba:=by simp [oq]
  rw [mis_zero hqv hL.inn (t:=(zn (oq x2.1.ah ([exP x5,exQ x5].map (phU x2.1 x3.1))) ⟨(loc x2.1.ah ([exP x5,exQ x5].map (phU x2.1 x3.1))).aV,(loc x2.1.ah ([exP x5,exQ x5].map (phU x2.1 x3.1))).aV⟩ (phU x2.1 x3.1 (exP x5))).bp) (fun b hb=>?_)]
  ·exact Int.le_refl _
  ·have hb':b=phU x2.1 x3.1 (exP x5):=by
    have:b=phU x2.1 x3.1 (exP x5)∨b=phU x2.1 x3.1 (exQ x5):=by simpa [oq]using hb
    rcases this with h|h
    ·exact h
    ·rw [h,hph]
   rw [hb']
   have:=(hz _ hmem).2.1
   unfold res;omega
 have hspan:=hs.span.1
 have hR := rnd_one hs (v := x3.1) (O := [exP x5, exQ x5]) (by rw [hle]; simp) sm (fun p hp' i hi => by
  have k:∀p∈[exP x5,exQ x5],phU x2.1 x3.1 p=phU x2.1 x3.1 (exP x5):=fun p h=>by
   rcases List.mem_cons.1 h with rfl|h
   ·rfl
   ·rw [List.mem_singleton.1 h,hph]
  rw [k p hp',k i hi];omega) (fit_all hs hphs sm hmis)
 rw [hR]at hf
 have hsP:bF cP [exP x5,exQ x5]=[exP x5,exQ x5]:=sortI_self bP (fun _ _=>eX) hpq
 have hfind:eC x2.1 x3.1 [exQ x5,exP x5]=some ([evM x2.1 x3.1 [exP x5,exQ x5]],[],0):=by
  rw [hf]
  simp only [List.map_cons,List.map_nil,hsP]
  rfl
 have hsn:c7 []=some []:=oV .nil sm
 have hf0:=find_at hs hv hsn .nil sm sm (by simp [bY])
 have hfind0:eC x2.1 x3.1 []=some ([],[],0):=hf0
 have hsol:=(oU hs hv hpq hus sm sm).2
 have hnm:nm [exP x5,exQ x5]=exP x5:=by
  show(if jM (exQ x5) (exP x5)<0 then exQ x5 else exP x5)=exP x5
  rw [if_neg]
  have h1:jM (exQ x5) (exP x5)=c9 (exQ x5) (exP x5):=by
   unfold jM
   rw [if_neg (by simp [exQ,exP,qF])]
  have:=bP.sw (exP x5) (exQ x5)
  omega
 show Ok ((eC x2.1 x3.1 [exQ x5,exP x5]).bind _) _
 rw [hfind,zd,hfind0,zd]
 dsimp only
 rw [if_pos sm,if_pos sm,if_pos sm]
 have hg:eQ [evM x2.1 x3.1 [exP x5,exQ x5]] (0:Int)=some (evM x2.1 x3.1 [exP x5,exQ x5]):=rfl
 have hn:(evM x2.1 x3.1 [exP x5,exQ x5]).aZ=exP x5:=hnm
 have hsp:(evM x2.1 x3.1 [exP x5,exQ x5]).aB.cg=[exP x5,exQ x5]:=hsol
 rw [hg,zd,hn,if_pos (by simp [exP]),zd,hsp,if_pos sm,if_pos sm,if_pos sm]
 have i1:im [evM x2.1 x3.1 [exP x5,exQ x5]] (ae.mk x5 2500 2500 2500 10 0)=some 0:=by
  rw [index_one,hn];exact congrArg some (if_pos (show exP x5=_ from rfl))
 have i2:im [evM x2.1 x3.1 [exP x5,exQ x5]] (ae.mk x5 2500 2500 2500 11 0)=some (-1):=by
  rw [index_one,hn,if_neg (by simp [exP])]
 rw [i1,zd,if_pos sm,i2,zd]
 exact Ok.ret rfl
end Go.Dw.Ek
set_option maxRecDepth 100000
set_option maxHeartbeats 4000000
namespace Go.Dw.Ek
open Go.Dw Go.Proofs
open Sd (kD e9 ev)
structure Cl{α:Type}(k:α->Int)(span:Int)(A:List α)(out:List (List α)):Prop where
 flat:out.flatten=A
 ne:∀c∈out,c≠ []
 far:out.Pairwise fun c d=>∀x∈c,∀y∈d,k y-k x>span
theorem Cl.nil{α:Type}{k:α->Int}{span:Int}:Cl k span ([]:List α) []:=⟨rfl,fun c h=>(List.not_mem_nil h).elim,.nil⟩
theorem Cl.gap{α:Type}{k:α->Int}{span:Int}{A:List α}{out:List (List α)}(h:Cl k span A out){x:α}(hx:∀y∈A,k x-k y>span):Cl k span (A++[x]) (out++[[x]]):=by
 refine⟨by simp [h.flat],fun c hc=>?_,?_⟩
 ·rcases List.mem_append.1 hc with hc|hc
  ·exact h.ne c hc
  ·rw [List.mem_singleton.1 hc];simp
 ·refine List.pairwise_append.2 ⟨h.far,sm,fun c hc d hd y hy z hz=>?_⟩
  rw [List.mem_singleton.1 hd]at hz
  rw [List.mem_singleton.1 hz]
  exact hx y (by rw [<-h.flat];exact List.mem_flatten.2 ⟨c,hc,hy⟩)
theorem Cl.more{α:Type}{k:α->Int}{span:Int}{A:List α}{B:List (List α)}{c:List α}(h:Cl k span A (B++[c])){x:α}(hx:∀y∈A,k y<=k x):Cl k span (A++[x]) (B++[c++[x]]):=by
 obtain⟨h1,h2,h3⟩:=h
 obtain⟨f1,f2,f3⟩:=List.pairwise_append.1 h3
 refine⟨by rw [<-h1];simp,fun d hd=>?_,List.pairwise_append.2 ⟨f1,sm,fun d hd e he y hy z hz=>?_⟩⟩
 ·rcases List.mem_append.1 hd with hd|hd
  ·exact h2 d (List.mem_append.2 (.inl hd))
  ·rw [List.mem_singleton.1 hd];simp
 ·rw [List.mem_singleton.1 he]at hz
  have hf:=f3 d hd c sm y hy
  rcases List.mem_append.1 hz with hz|hz
  ·exact hf z hz
  ·rw [List.mem_singleton.1 hz]
   have hne:=h2 c sm
   obtain⟨w,hw⟩:=List.exists_mem_of_ne_nil c hne
   have a1:=hf w hw
   have a2:=hx w (by rw [<-h1];exact List.mem_flatten.2 ⟨c,sm,hw⟩)
   omega
theorem asc_early{s:ap}{v:ar}{O:List Pick}(h:O.Pairwise fun x y=>cmpA s v x y<0):O.Pairwise fun x y=>(phU s v x).aK<=(phU s v y).aK:=h.imp fun{x y}h=>by
 unfold cmpA at h
 refine cmpF_early ?_
 split at h
 ·omega
 ·rename_i h0;omega
theorem clusters_at{s:ap}(hs:iH s){v:ar}(hv:kH v){l L:List Pick}(hL:c7 l=some L)(hsL:L.Pairwise fun x y=>c9 x y<0)(hl:L.length<=200)(hp:∀p∈L,ik p)(hu:(bY s v L).length<=19):
  ∃out,Cl (fun p=>(phU s v p).aK) s.ah.cB (dq s v (bY s v L)) out∧kb s v l=some (out.map (bF cP),0):=by
 have hU:(bY s v L).Pairwise fun x y=>c9 x y<0:=hsL.filter _
 have hus:UsOk s v (bY s v L):=fun p h=>by
  have:=List.mem_filter.1 h
  exact⟨hp p this.1,this.2⟩
 unfold kb
 rw [eusable_at hs hv hL hl hp,zd,if_neg sm]
 generalize bY s v L=U at hu hU hus⊢
 have hFl:(U.map (phU s v)).length=U.length:=List.length_map ..
 obtain⟨o,eo,ho⟩:=order_at (F:=U.map (phU s v)) za
 rw [eo,zd]
 have hol:o.length=U.length:=by rw [ho.len,hFl]
 have hpk:=pk_sorted (s:=s) (v:=v) hU ho
 have hOl:(dq s v U).length=U.length:=cH _ _
 have hasc:(dq s v U).Pairwise fun x y=>cmpA s v x y<0:=dh (jW s v) (fun _ _=>nk) (cV bP hU)
 have hearly:=asc_early hasc
 have hget:∀(n:Nat)(hn:n<U.length),eQ o (n:Int)=some (dW o n)∧eQ (U.map (phU s v)) (dW o n)=some (phU s v ((dq s v U)[n]'za))∧eQ U (dW o n)=some ((dq s v U)[n]'za):=fun n hn=>by
  have hr:=ho.range (j:=n) za
  rw [hFl]at hr
  have e1:(dq s v U)[n]'za=uAt U (dW o n):=by
   have:(dq s v U)[n]'za=((List.range U.length).map (pk U o))[n]'(by simpa using hn):=by simp only [hpk]
   rw [this];simp [pk]
  refine⟨ordAt_get za,?_,?_⟩
  ·rw [qn hr.1 (by rw [hFl];exact hr.2),uAt_ph hr.1 hr.2,e1]
  ·rw [uAt_get hr.1 hr.2,e1]
 have hearlyB:∀p∈U,0<=(phU s v p).aK∧(phU s v p).aK<=18014398509481984:=fun p hp=>by
  have hq:=((mc hs hv (hus p hp).1).2 (hus p hp).2).ph
  exact⟨hq.early,by have h1:=hq.late;have h2:=hq.most;unfold phU;omega⟩
 have hmemO:∀p,p∈dq s v U↔p∈U:=fun p=>(bz _ U).mem_iff
 have hsp:=hs.span
 have hloop:Ok (dS (jv o (U,U.map (phU s v),0) s) ((0:Int),(0:Int),([]:List (List Pick)))) (fun out=>Cl (fun p=>(phU s v p).aK) s.ah.cB (dq s v U) out):=by
  refine Ok.loop (fun z:Int×Int×List (List Pick)=>∃n:Nat,z.2.1=(n:Int)∧n<=U.length∧Cl (fun p=>(phU s v p).aK) s.ah.cB ((dq s v U).take n) z.2.2∧∀(h:0<n)(h':n-1<(dq s v U).length),z.1=(phU s v (dq s v U)[n-1]).aK) (fun z=>((U.length:Int)-z.2.1).toNat) ?_ ⟨0,rfl,Nat.zero_le _,Cl.nil,fun h=>za⟩
  rintro⟨s4,s5,s6⟩ ⟨n,i0,i1,i2,i3⟩
  simp only at i0 i2 i3
  subst i0
  have htl:((dq s v U).take n).length=n:=by rw [List.length_take];omega
  have hflen:∀{A:List Pick}{out:List (List Pick)},Cl (fun p=>(phU s v p).aK) s.ah.cB A out->out.length<=A.length:=fun{A out}h=>by
   have key:∀X:List (List Pick),(∀g∈X,g≠ [])->X.length<=X.flatten.length:=by
    intro X
    induction X with
    |nil=>intro _;simp
    |cons x X ih=>
     intro h
     have h1:=ih fun g hg=>h g (List.mem_cons_of_mem _ hg)
     have h2:=List.length_pos_iff.2 (h x sm)
     rw [List.flatten_cons,List.length_append,List.length_cons];omega
   have:=key out h.ne
   rwa [h.flat]at this
  have h6:=hflen i2
  rw [htl]at h6
  have hcl:∀c∈s6,c.length<=19:=fun c hc=>by
   have:=(List.sublist_flatten_of_mem hc).length_le
   rw [i2.flat,htl]at this
   omega
  unfold jv
  dsimp only
  refine Ok.gC (fun hlt=>?_) (fun hge=>Ok.st ?_)
  rotate_left
  ·obtain rfl:n=U.length:=by omega
   rw [<-hOl,List.take_length]at i2
   exact i2
  have hn:n<U.length:=by omega
  obtain⟨g1,g2,g3⟩:=hget n hn
  have hnO:n<(dq s v U).length:=by omega
  have htake:(dq s v U).take (n+1)=(dq s v U).take n++[(dq s v U)[n]]:=jy hnO
  rw [g1,zd]
  have hput:∀(B:List (List Pick))(c:List Pick),B.length<=19->c.length<=19->(wJ (B++[c])).bind (fun x14=>(inO (B++[c]) (IntKind.wrap .i64 (((B++[c]).length:Int)-(1:Int)))).bind fun x15=>(atO (IntKind.wrap .i64 (((B++[c]).length:Int)-(1:Int))) ((B++[c]).length-1)).bind fun x16=>(eQ U (dW o n)).bind fun x17=>(nJ x14 [x17] 104).bind fun x18=>(inO (B++[c]) (IntKind.wrap .i64 (((B++[c]).length:Int)-(1:Int)))).bind fun x19=>(stO (B++[c]).length (IntKind.wrap .i64 (((B++[c]).length:Int)-(1:Int))) ((B++[c]).length-1)).bind fun x20=>some (fK.next (ω:=List (List Pick)) ((phU s v ((dq s v U)[n])).aK,(IntKind.wrap .i64 ((n:Int)+(1:Int))),((B++[c]).set ((B++[c]).length-1) x18))))=some (.next ((phU s v ((dq s v U)[n])).aK,((n+1:Nat):Int),B++[c++[(dq s v U)[n]]])):=fun B c hB hc=>by
   have hw:IntKind.wrap .i64 (((B++[c]).length:Int)-(1:Int))=(B.length:Int):=by rw [w64 sm so];simp
   have hlen:(B++[c]).length-1=B.length:=by simp
   have hlast:wJ (B++[c])=some c:=by unfold wJ;rw [hlen];simp
   have hat:atO (B.length:Int) B.length=some ():=by unfold atO;simp
   have hst:stO (B++[c]).length (B.length:Int) B.length=some ():=by unfold stO;rw [if_pos ⟨sm,sm⟩]
   rw [hw,hlen,hlast,zd,qA za so,zd,hat,zd,g3,zd,dz so,zd,zd,hst,zd,w64 za za]
   simp
  have hgap:(∀y∈(dq s v U).take n,(phU s v (dq s v U)[n]).aK-(phU s v y).aK>s.ah.cB)->Ok ((nJ s6 [[]] 24).bind fun x12=>(eQ (U.map (phU s v)) (dW o n)).bind fun x13=>(wJ x12).bind fun x14=>(inO x12 (IntKind.wrap .i64 ((x12.length:Int)-(1:Int)))).bind fun x15=>(atO (IntKind.wrap .i64 ((x12.length:Int)-(1:Int))) (x12.length-1)).bind fun x16=>(eQ U (dW o n)).bind fun x17=>(nJ x14 [x17] 104).bind fun x18=>(inO x12 (IntKind.wrap .i64 ((x12.length:Int)-(1:Int)))).bind fun x19=>(stO x12.length (IntKind.wrap .i64 ((x12.length:Int)-(1:Int))) (x12.length-1)).bind fun x20=>some (.next (x13.aK,(IntKind.wrap .i64 ((n:Int)+(1:Int))),(x12.set (x12.length-1) x18))))
    (Ok.S (fun z:Int×Int×List (List Pick)=>∃n:Nat,z.2.1=(n:Int)∧n<=U.length∧Cl (fun p=>(phU s v p).aK) s.ah.cB ((dq s v U).take n) z.2.2∧∀(h:0<n)(h':n-1<(dq s v U).length),z.1=(phU s v (dq s v U)[n-1]).aK) (fun z=>((U.length:Int)-z.2.1).toNat) (fun out=>Cl (fun p=>(phU s v p).aK) s.ah.cB (dq s v U) out) (s4,(n:Int),s6)):=fun hg=>by
   rw [dz so,zd,g2,zd,hput s6 [] za sm]
   refine Ok.nx ⟨n+1,rfl,hn,?_,fun _ _=>rfl⟩ zc
   rw [htake]
   exact i2.gap hg
  refine Ok.rN (fun h0=>hgap fun y hy=>?_) (fun h0=>?_)
  ·obtain rfl:n=0:=by omega
   cases hy
  ·have hn0:0<n:=by omega
   have hlast:=i3 hn0 za
   rw [g2,zd]
   have b1:=hearlyB _ ((hmemO _).1 (List.getElem_mem hnO))
   have b2:=hearlyB _ ((hmemO _).1 (List.getElem_mem (show n-1<(dq s v U).length by omega)))
   have hle:∀y∈(dq s v U).take n,(phU s v y).aK<=s4:=fun y hy=>by
    obtain⟨j,hj,rfl⟩:=List.mem_iff_getElem.1 hy
    rw [List.getElem_take]
    rw [htl]at hj
    by_cases e:j=n-1
    ·subst e;rw [hlast];exact Int.le_refl _
    ·rw [hlast];exact List.pairwise_iff_getElem.1 hearly j (n-1) za za za
   have hx:s4<=(phU s v (dq s v U)[n]).aK:=by
    rw [hlast];exact List.pairwise_iff_getElem.1 hearly (n-1) n za hnO za
   rw [w64 (n:=(phU s v (dq s v U)[n]).aK-s4) za za]
   refine Ok.gC (fun hc=>?_) (fun hc=>?_)
   ·have:=hgap fun y hy=>by have:=hle y hy;omega
    rwa [g2]at this
   ·rw [zd]
    have hne:s6≠ []:=fun h=>by
     have:=i2.flat
     rw [h]at this
     have h2:=congrArg List.length this
     rw [htl]at h2
     simp at h2;omega
    obtain⟨B,c,rfl⟩:∃B c,s6=B++[c]:=⟨s6.dropLast,s6.getLast hne,(List.dropLast_concat_getLast hne).symm⟩
    rw [hput B c (by simp at h6;omega) (hcl c sm)]
    refine Ok.nx ⟨n+1,rfl,hn,?_,fun _ _=>rfl⟩ zc
    rw [htake]
    exact i2.more fun y hy=>by have:=hle y hy;omega
 obtain⟨out,e1,hcl⟩:=hloop
 rw [e1,zd]
 refine⟨out,hcl,?_⟩
 have hnd:(dq s v U).Nodup:=(bz _ U).nodup_iff.2 (cV bP hU)
 have hsub:∀c∈out,c.Sublist (dq s v U):=fun c hc=>by rw [<-hcl.flat];exact List.sublist_flatten_of_mem hc
 have hsort:∀c∈out,uR ca c=some (bF cP c):=fun c hc=>by
  have hl:=(hsub c hc).length_le
  obtain⟨m,em,h1,h2⟩:=sort_at (l:=c) za
  have hcn:=hnd.sublist (hsub c hc)
  have hmn:m.Nodup:=h1.nodup_iff.2 hcn
  rw [em, fO bP ((h2.and hmn).imp fun {x y} h => by
   rcases Int.lt_or_eq_of_le h.1 with h3|h3
   ·exact h3
   ·exact(h.2 (eX h3)).elim) (dh bP (fun _ _=>eX) hcn) fun x=>by rw [h1.mem_iff,(bz _ c).mem_iff]]
 have houtl:out.length<=19:=by
  have key:∀X:List (List Pick),(∀g∈X,g≠ [])->X.length<=X.flatten.length:=by
   intro X
   induction X with
   |nil=>intro _;simp
   |cons x X ih=>
    intro h
    have h1:=ih fun g hg=>h g (List.mem_cons_of_mem _ hg)
    have h2:=List.length_pos_iff.2 (h x sm)
    rw [List.flatten_cons,List.length_append,List.length_cons];omega
  have:=key out hcl.ne
  rw [hcl.flat]at this
  omega
 have h51:Ok (dS (jw out) ((0:Int),out)) (fun r=>r=out.map (bF cP)):=by
  refine Ok.loop (fun z:Int×List (List Pick)=>∃n:Nat,z.1=(n:Int)∧n<=out.length∧z.2=(out.take n).map (bF cP)++out.drop n) (fun z=>((out.length:Int)-z.1).toNat) ?_ ⟨0,rfl,Nat.zero_le _,sm⟩
  rintro⟨s1,s2⟩ ⟨n,i0,i1,i2⟩
  simp only at i0 i2
  subst i0 i2
  unfold jw
  dsimp only
  refine Ok.gC (fun hlt=>?_) (fun hge=>Ok.st ?_)
  rotate_left
  ·obtain rfl:n=out.length:=by omega
   simp
  have hn:n<out.length:=by omega
  have htl:((out.take n).map (bF cP)).length=n:=by rw [List.length_map,List.length_take];omega
  rw [List.drop_eq_getElem_cons hn,get1 _ _ _ (by rw [htl]),zd,qA za (by rw [List.length_append,htl];simp;omega),zd]
  have hat:atO (n:Int) (Int.toNat (n:Int))=some ():=by unfold atO;simp
  rw [hat,zd,hsort _ (List.getElem_mem hn),zd,w64 za za]
  refine Ok.nx ⟨n+1,rfl,hn,?_⟩ zc
  simp only [Int.toNat_natCast]
  rw [jy hn,List.map_append]
  rw [List.set_append_right _ _ za,htl,Nat.sub_self,List.set_cons_zero,List.append_assoc]
  rfl
 rw [h51.eq,zd]
theorem qr{s:ap}(hs:iH s){v:ar}:∀(out:List (List Pick))(A:List Pick),A.Nodup->Cl (fun p=>(phU s v p).aK) s.ah.cB A out->lM s v A=(out.flatMap fun c=>(lM s v c).1,out.flatMap fun c=>(lM s v c).2)
 | [],A,_,h=>by
  have:A=[]:=by rw [<-h.flat];rfl
  subst this
  rfl
 |c::out,A,hnd,h=>by
  obtain⟨f1,f2⟩:=List.pairwise_cons.1 h.far
  have hA:A=c++out.flatten:=by rw [<-h.flat];rfl
  have hle:=hs.least.1
  have hsub:Cl (fun p=>(phU s v p).aK) s.ah.cB out.flatten out:=⟨rfl,fun d hd=>h.ne d (List.mem_cons_of_mem _ hd),f2⟩
  rw [hA]at hnd
  have hnd2:=(List.nodup_append.1 hnd).2.1
  have ih:=qr hs out out.flatten hnd2 hsub
  have hfar:∀x∈c,∀y∈out.flatten,(phU s v y).aK-(phU s v x).aK>s.ah.cB:=fun x hx y hy=>by
   obtain⟨d,hd,hyd⟩:=List.mem_flatten.1 hy
   exact f1 d hd x hx y hyd
  have h1:=na (pY s.ah (phU s v) s.ah.cB) (least:=s.ah.cw.toNat) za A.length c out.flatten (by rw [hA];exact Nat.le_refl _) hnd (fun C' hC hC0=>win_part hs.span.1 hC0 fun x hx=>hfar x (hC.subset hx))
  have e1:=ly (pY s.ah (phU s v) s.ah.cB) (least:=s.ah.cw.toNat) za A.length c.length c (by rw [hA,List.length_append];omega) (Nat.le_refl _)
  have e2:=ly (pY s.ah (phU s v) s.ah.cB) (least:=s.ah.cw.toNat) za A.length out.flatten.length out.flatten (by rw [hA,List.length_append];omega) (Nat.le_refl _)
  rw [e1,e2]at h1
  rw [List.flatMap_cons,List.flatMap_cons]
  have h2:lM s v A=((lM s v c).1++(lM s v out.flatten).1,(lM s v c).2++(lM s v out.flatten).2):=by
   unfold lM
   rw [<-hA]at h1
   exact h1
  rw [h2,ih]
theorem ord_part{s:ap}{v:ar}{c:List Pick}(h:c.Pairwise fun x y=>cmpA s v x y<0):dq s v (bF cP c)=c:=by
 have hnd:=cV (jW s v) h
 refine fO (jW s v) (dh (jW s v) (fun _ _=>nk) ((bz cP c).nodup_iff.2 hnd)) h fun x=>?_
 unfold dq
 rw [(bz _ _).mem_iff,(bz cP c).mem_iff]
theorem pZ(a0:List Int):iZ a0=some true:=by
 refine Ok.eq ?_
 unfold iZ
 refine Ok.bind (new_ok a0) (fun x1 h1=>?_)
 refine Ok.bind ((settingsV (k:=3) za x1 h1).both (settings_ok (k:=3) za x1 h1)) (fun x2⟨⟨ha,h2⟩,hset,_⟩=>?_)
 refine Ok.bind (sitesV (n:=6) x2.2 h2) (fun x3⟨⟨hv,hv2⟩,h3⟩=>?_)
 refine Ok.bind (picks_ok x2.1 hset x3.1 hv.inv 10 za x3.2 h3) (fun x4⟨⟨l4,p4⟩,h4⟩=>?_)
 obtain⟨L,eL,sL,mL,nL,hU,hus,hUl,hf⟩:=find_ok ha hv (l:=x4.1) za p4
 have hUl':(bY x2.1 x3.1 L).length<=19:=by omega
 obtain⟨out,hcl,hC⟩:=clusters_at ha hv eL sL za (fun p h=>p4 p ((mL p).1 h)) hUl'
 rw [hf,zd,hC,zd,if_neg sm,if_neg sm]
 have hok:=found_ok ha hv hU hus hUl'
 have hfs:=found_same ha hv hU hus hUl'
 have hfRl:=fR_len ha (v:=x3.1) hU
 have hfEl:=fE_len ha (v:=x3.1) hU
 generalize bY x2.1 x3.1 L=U at hU hus hUl hUl' hcl hok hfs hfRl hfEl⊢
 have hOasc:(dq x2.1 x3.1 U).Pairwise fun x y=>cmpA x2.1 x3.1 x y<0:=dh (jW _ _) (fun _ _=>nk) (cV bP hU)
 have hOnd:=cV (jW x2.1 x3.1) hOasc
 have hsub:∀c∈out,c.Sublist (dq x2.1 x3.1 U):=fun c hc=>by rw [<-hcl.flat];exact List.sublist_flatten_of_mem hc
 have hOl:(dq x2.1 x3.1 U).length=U.length:=cH _ _
 have hrc:=qr ha out _ hOnd hcl
 have hone:∀c∈out,eC x2.1 x3.1 (bF cP c)=some (fE x2.1 x3.1 (bF cP c),fR x2.1 x3.1 (bF cP c),0)∧bF cP c≠ []∧dq x2.1 x3.1 (bF cP c)=c:=fun c hc=>by
  have hcu:UsOk x2.1 x3.1 (bF cP c):=fun p hp=>hus p ((bz _ U).mem_iff.1 ((hsub c hc).subset ((bz _ c).mem_iff.1 hp)))
  have hcs:(bF cP c).Pairwise fun x y=>c9 x y<0:=dh bP (fun _ _=>eX) (hOnd.sublist (hsub c hc))
  have hclen:(bF cP c).length<=19:=by rw [cH];have:=(hsub c hc).length_le;omega
  have hfc:=find_at ha hv (oV hcs za) hcs za (fun p h=>(hcu p h).1) (by rw [n8 hcu];exact hclen)
  rw [n8 hcu]at hfc
  refine⟨hfc,fun h=>?_,ord_part (hOasc.sublist (hsub c hc))⟩
  have:=cH cP c
  rw [h]at this
  exact hcl.ne c hc (List.eq_nil_of_length_eq_zero this.symm)
 have hEall:(out.flatMap fun c=>fE x2.1 x3.1 (bF cP c)).Perm (fE x2.1 x3.1 U):=by
  refine List.Perm.trans ?_ (bz _ _).symm
  rw [hrc]
  simp only
  rw [List.map_flatMap]
  refine oZ fun c hc=>?_
  unfold fE
  rw [(hone c hc).2.2]
  exact bz _ _
 have hRall:(out.flatMap fun c=>fR x2.1 x3.1 (bF cP c)).Perm (fR x2.1 x3.1 U):=by
  refine List.Perm.trans ?_ (bz _ _).symm
  rw [hrc]
  refine oZ fun c hc=>?_
  unfold fR
  rw [(hone c hc).2.2]
  exact bz _ _
 have hnames:((out.flatMap fun c=>fE x2.1 x3.1 (bF cP c)).map (·.aZ)).Nodup:=by
  refine(hEall.map _).nodup_iff.2 ?_
  have:(fE x2.1 x3.1 U).Pairwise fun x y=>x.aZ≠y.aZ:=hok.asc.imp fun{x y}h e=>by
   rw [e]at h
   have:=jX.refl y.aZ
   omega
  unfold List.Nodup
  rw [List.pairwise_map]
  exact this
 have hElen:=hEall.length_eq
 have hRlen:=hRall.length_eq
 have houtl:out.length<=19:=by
  have key:∀X:List (List Pick),(∀g∈X,g≠ [])->X.length<=X.flatten.length:=by
   intro X
   induction X with
   |nil=>intro _;simp
   |cons x X ih=>
    intro h
    have h1:=ih fun g hg=>h g (List.mem_cons_of_mem _ hg)
    have h2:=List.length_pos_iff.2 (h x sm)
    rw [List.flatten_cons,List.length_append,List.length_cons];omega
  have:=key out hcl.ne
  rw [hcl.flat]at this
  omega
 refine Ok.bind (P:=fun o:(List au×List Pick)⊕Bool=>∃a r,o= .inl (a,r)∧a.Perm (out.flatMap fun c=>fE x2.1 x3.1 (bF cP c))∧Ascending a∧r=out.flatMap fun c=>fR x2.1 x3.1 (bF cP c))
  (Ok.loop (fun z:List au×Int×List Pick=>∃k:Nat,z.2.1=(k:Int)∧k<=out.length∧z.1.Perm ((out.take k).flatMap fun c=>fE x2.1 x3.1 (bF cP c))∧Ascending z.1∧z.2.2=(out.take k).flatMap fun c=>fR x2.1 x3.1 (bF cP c)) (fun z=>((out.length:Int)-z.2.1).toNat) ?_ ⟨0,rfl,Nat.zero_le _,sm,.nil,rfl⟩) (fun o ho=>?_)
 ·rintro⟨a,z,r⟩ ⟨k,i0,i1,i2,i3,i4⟩
  simp only at i0 i2 i3 i4
  subst i0 i4
  unfold jH
  dsimp only
  refine Ok.gC (fun hlt=>?_) (fun hge=>Ok.st ?_)
  rotate_left
  ·obtain rfl:k=out.length:=by simp at hge;omega
   rw [List.take_length]at i2⊢
   exact⟨a,_,rfl,i2,i3,rfl⟩
  have hk:k<out.length:=by simpa using hlt
  obtain⟨f1,f2,f3⟩:=hone _ (List.getElem_mem hk)
  have hsplitE:(out.take (k+1)).flatMap (fun c=>fE x2.1 x3.1 (bF cP c))=((out.take k).flatMap fun c=>fE x2.1 x3.1 (bF cP c))++fE x2.1 x3.1 (bF cP out[k]):=by
   rw [jy hk,List.flatMap_append];simp
  have hsplitR:(out.take (k+1)).flatMap (fun c=>fR x2.1 x3.1 (bF cP c))=((out.take k).flatMap fun c=>fR x2.1 x3.1 (bF cP c))++fR x2.1 x3.1 (bF cP out[k]):=by
   rw [jy hk,List.flatMap_append];simp
  have hpreE:((out.take (k+1)).flatMap fun c=>fE x2.1 x3.1 (bF cP c)).Sublist (out.flatMap fun c=>fE x2.1 x3.1 (bF cP c)):=by
   conv=>rhs;rw [<-List.take_append_drop (k+1) out,List.flatMap_append]
   exact List.sublist_append_left _ _
  have hpreR:((out.take (k+1)).flatMap fun c=>fR x2.1 x3.1 (bF cP c)).Sublist (out.flatMap fun c=>fR x2.1 x3.1 (bF cP c)):=by
   conv=>rhs;rw [<-List.take_append_drop (k+1) out,List.flatMap_append]
   exact List.sublist_append_left _ _
  have hpE:=hpreE.length_le;have hpR:=hpreR.length_le
  rw [hsplitE]at hpreE hpE
  rw [hsplitR]at hpR
  rw [List.length_append]at hpE hpR
  have hp2:(a++fE x2.1 x3.1 (bF cP out[k])).Perm (((out.take k).flatMap fun c=>fE x2.1 x3.1 (bF cP c))++fE x2.1 x3.1 (bF cP out[k])):=i2.append_right _
  obtain⟨m,e1,e2,e3⟩:=join_at (a:=a) (b:=fE x2.1 x3.1 (bF cP out[k])) i3 ((hp2.map _).nodup_iff.2 (hnames.sublist (hpreE.map _))) (by rw [hp2.length_eq,List.length_append];omega)
  rw [gZ (i:=k) rfl (by simpa using hk),List.getElem_map,zd,f1,zd,if_neg sm,if_neg (by simp;exact f2),e1,zd,dz (by dsimp only;omega),zd,w64 za za]
  refine Ok.nx ⟨k+1,rfl,hk,?_,e3,?_⟩ zc
  ·simp only
   rw [hsplitE]
   exact e2.trans hp2
  ·simp only
   rw [hsplitR]
 ·obtain⟨a,r,rfl,g1,g2,rfl⟩:=ho
  dsimp only
  have hE:a=fE x2.1 x3.1 U:=fO (c:=fun x y:au=>jM x.aZ y.aZ) (jX.map fun e:au=>e.aZ) g2 hok.asc fun e=>(g1.trans hEall).mem_iff
  obtain⟨R,eR,sR,mR⟩:=ref_Sort_eq (l:=out.flatMap fun c=>fR x2.1 x3.1 (bF cP c)) za
  have hRs:(fR x2.1 x3.1 U).Pairwise fun x y=>c9 x y<0:=by
   refine dh bP (fun _ _=>eX) ?_
   have h:=(lv ha (v:=x3.1) hU).nodup_iff.2 (cV bP hU)
   exact(List.nodup_append.1 h).2.1
  have hR:R=fR x2.1 x3.1 U:=jm sR hRs fun p=>by rw [mR,hRall.mem_iff]
  rw [hE,hfs.1,zd,if_pos rfl,eR,zd,hR,hfs.2,zd,if_pos rfl,awake_at]
  exact Ok.ret rfl
end Go.Dw.Ek
