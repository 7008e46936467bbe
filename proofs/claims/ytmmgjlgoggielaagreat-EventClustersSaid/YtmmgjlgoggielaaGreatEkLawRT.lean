
import Derived.Test.YtmmgjlgoggielaaGreatEkLawH
import Derived.Test.YtmmgjlgoggielaaGreatDwPlain

set_option maxRecDepth 100000
set_option maxHeartbeats 4000000
namespace Go.Dw.Ek
open Go.Dw Go.Proofs
theorem has_max:∀{l:List Int},l≠ []->∃m∈l,∀x∈l,x<=m
 | [a],_=>⟨a,sm,sm⟩
 |a::b::r,_=>by
  obtain⟨m,h1,h2⟩:=has_max (l:=b::r) sm
  by_cases h:a<=m
  ·exact ⟨m, List.mem_cons_of_mem _ h1, fun x hx => by
    rcases List.mem_cons.1 hx with rfl|hx
    ·exact h
    ·exact h2 x hx⟩
  ·exact ⟨a, sm, fun x hx => by
    rcases List.mem_cons.1 hx with rfl|hx
    ·exact Int.le_refl _
    ·have:=h2 x hx;omega⟩
theorem has_min{l:List Int}(h:l≠ []):∃m∈l,∀x∈l,m<=x:=by
 obtain⟨m,h1,h2⟩:=has_max (l:=l.map fun x=> -x) (by simpa using h)
 obtain⟨y,hy,rfl⟩:=List.mem_map.1 h1
 exact⟨y,hy,fun x hx=>by have:=h2 (-x) (List.mem_map.2 ⟨x,hx,rfl⟩);omega⟩
def res(z:aG)(t:Int):Int:=max 0 (max (t-z.fTo) (z.bp-t))
def ig(cap w:Int)(z:aG)(t:Int):Int:=w*min cap (res z t)
def bZ(cap:Int):List ak->List aG->Int->Int
 |a::ps,z::zs,t=>ig cap a.bA z t+bZ cap ps zs t
 |_,_,_=>0
def ends:List aG->List Int
 | []=>[]
 |z::zs=>z.bp::z.fTo::ends zs
theorem mem_ends{l:List aG}{t:Int}:t∈ends l↔∃z∈l,t=z.bp∨t=z.fTo:=by
 induction l with
 |nil=>simp [ends]
 |cons z zs ih=>simp [ends,ih,or_assoc]
theorem cap_line{c a L R t:Int}(h1:L<=t)(h2:t<=R):(R-t)*min c (a-L)+(t-L)*min c (a-R)<=(R-L)*min c (a-t):=by
 have k1:(R-t)*min c (a-L)<=(R-t)*c:=Int.mul_le_mul_of_nonneg_left za za
 have k2:(t-L)*min c (a-R)<=(t-L)*c:=Int.mul_le_mul_of_nonneg_left za za
 have k3:(R-t)*min c (a-L)<=(R-t)*(a-L):=Int.mul_le_mul_of_nonneg_left za za
 have k4:(t-L)*min c (a-R)<=(t-L)*(a-R):=Int.mul_le_mul_of_nonneg_left za za
 rcases Int.le_total c (a-t)with h|h
 ·rw [Int.min_eq_left h]
  have:(R-t)*c+(t-L)*c=(R-L)*c:=by rw [<-Int.add_mul];congr 1;omega
  omega
 ·rw [Int.min_eq_right h]
  have:(R-t)*(a-L)+(t-L)*(a-R)=(R-L)*(a-t):=by
   simp only [Int.sub_mul,Int.mul_sub,Int.mul_comm]
   omega
  omega
theorem cost1_line{cap w:Int}{z:aG}(hc:0<=cap)(hw:0<=w)(hz:z.bp<=z.fTo){L R t:Int}(h1:L<=t)(h2:t<=R)(hf:z.bp<=L∨R<=z.bp)(ht:z.fTo<=L∨R<=z.fTo):
  (R-t)*ig cap w z L+(t-L)*ig cap w z R<=(R-L)*ig cap w z t:=by
 have key:(R-t)*min cap (res z L)+(t-L)*min cap (res z R)<=(R-L)*min cap (res z t):=by
  unfold res
  rcases hf with hf|hf
  ·rcases ht with ht|ht
   ·rw [show max 0 (max (L-z.fTo) (z.bp-L))=(-z.fTo)-(-L)by omega,show max 0 (max (R-z.fTo) (z.bp-R))=(-z.fTo)-(-R)by omega,show max 0 (max (t-z.fTo) (z.bp-t))=(-z.fTo)-(-t)by omega]
    have:=cap_line (c:=cap) (a:= -z.fTo) (L:= -R) (R:= -L) (t:= -t) za za
    rw [show-L- -t=t-L by omega,show-t- -R=R-t by omega,show-L- -R=R-L by omega]at this
    omega
   ·rw [show max 0 (max (L-z.fTo) (z.bp-L))=0 by omega,show max 0 (max (R-z.fTo) (z.bp-R))=0 by omega,show max 0 (max (t-z.fTo) (z.bp-t))=0 by omega]
    rw [Int.min_eq_right hc];simp
  ·rw [show max 0 (max (L-z.fTo) (z.bp-L))=z.bp-L by omega,show max 0 (max (R-z.fTo) (z.bp-R))=z.bp-R by omega,show max 0 (max (t-z.fTo) (z.bp-t))=z.bp-t by omega]
   exact cap_line h1 h2
 unfold ig
 have:=Int.mul_le_mul_of_nonneg_left key hw
 rw [Int.mul_add,Int.mul_left_comm w (R-t),Int.mul_left_comm w (t-L),Int.mul_left_comm w (R-L)]at this
 exact this
theorem costS_line{cap:Int}(hc:0<=cap){L R t:Int}(h1:L<=t)(h2:t<=R):∀(ps:List ak)(zs:List aG),(∀a∈ps,0<=a.bA)->(∀z∈zs,z.bp<=z.fTo)->(∀e∈ends zs,e<=L∨R<=e)->
  (R-t)*bZ cap ps zs L+(t-L)*bZ cap ps zs R<=(R-L)*bZ cap ps zs t
 |a::ps,z::zs,ha,hz,he=>by
  have k1:=cost1_line hc (ha a sm) (hz z sm) h1 h2 (he _ (by simp [ends])) (he _ (by simp [ends]))
  have k2:=costS_line hc h1 h2 ps zs (fun x hx=>ha x (by simp [hx])) (fun x hx=>hz x (by simp [hx])) (fun e h=>he e (by simp [ends,h]))
  unfold bZ
  rw [Int.mul_add,Int.mul_add,Int.mul_add]
  omega
 | [],_,_,_,_=>by simp [bZ]
 |_::_,[],_,_,_=>by simp [bZ]
theorem costS_left{cap:Int}{L t:Int}(h1:t<=L):∀(ps:List ak)(zs:List aG),(∀a∈ps,0<=a.bA)->(∀z∈zs,z.bp<=z.fTo)->(∀e∈ends zs,L<=e)->bZ cap ps zs L<=bZ cap ps zs t
 |a::ps,z::zs,ha,hz,he=>by
  have:=costS_left (cap:=cap) h1 ps zs (fun x hx=>ha x (by simp [hx])) (fun x hx=>hz x (by simp [hx])) (fun e h=>he e (by simp [ends,h]))
  have e1:=he z.bp (by simp [ends])
  have e2:=he z.fTo (by simp [ends])
  unfold bZ
  have:ig cap a.bA z L<=ig cap a.bA z t:=Int.mul_le_mul_of_nonneg_left (by unfold res;omega) (ha a sm)
  omega
 | [],_,_,_,_=>by simp [bZ]
 |_::_,[],_,_,_=>by simp [bZ]
theorem costS_right{cap:Int}{L t:Int}(h1:L<=t):∀(ps:List ak)(zs:List aG),(∀a∈ps,0<=a.bA)->(∀z∈zs,z.bp<=z.fTo)->(∀e∈ends zs,e<=L)->bZ cap ps zs L<=bZ cap ps zs t
 |a::ps,z::zs,ha,hz,he=>by
  have:=costS_right (cap:=cap) h1 ps zs (fun x hx=>ha x (by simp [hx])) (fun x hx=>hz x (by simp [hx])) (fun e h=>he e (by simp [ends,h]))
  have e1:=he z.bp (by simp [ends])
  have e2:=he z.fTo (by simp [ends])
  unfold bZ
  have:ig cap a.bA z L<=ig cap a.bA z t:=Int.mul_le_mul_of_nonneg_left (by unfold res;omega) (ha a sm)
  omega
 | [],_,_,_,_=>by simp [bZ]
 |_::_,[],_,_,_=>by simp [bZ]
theorem least_end{cap:Int}(hc:0<=cap){ps:List ak}{zs:List aG}(hn:zs≠ [])(ha:∀a∈ps,0<=a.bA)(hz:∀z∈zs,z.bp<=z.fTo)(t:Int):∃e∈ends zs,bZ cap ps zs e<=bZ cap ps zs t:=by
 have hne:ends zs≠ []:=by
  match zs,hn with
  |z::zs,_=>simp [ends]
 by_cases hA:(ends zs).filter (fun e=>decide (e<=t))=[]
 ·obtain⟨m,h1,h2⟩:=has_min hne
  have:t<=m:=by
   apply Classical.byContradiction
   intro h
   have:m∈(ends zs).filter (fun e=>decide (e<=t)):=List.mem_filter.2 ⟨h1,so⟩
   rw [hA]at this;simp at this
  exact⟨m,h1,costS_left this ps zs ha hz h2⟩
 by_cases hB:(ends zs).filter (fun e=>decide (t<=e))=[]
 ·obtain⟨m,h1,h2⟩:=has_max hne
  have:m<=t:=by
   apply Classical.byContradiction
   intro h
   have:m∈(ends zs).filter (fun e=>decide (t<=e)):=List.mem_filter.2 ⟨h1,so⟩
   rw [hB]at this;simp at this
  exact⟨m,h1,costS_right this ps zs ha hz h2⟩
 obtain⟨L,l1,l2⟩:=has_max hA
 obtain⟨R,r1,r2⟩:=has_min hB
 rw [List.mem_filter]at l1 r1
 have l3:L<=t:=by simpa using l1.2
 have r3:t<=R:=by simpa using r1.2
 have hl := costS_line hc l3 r3 ps zs ha hz (fun e he => by
  rcases Int.le_total e t with h|h
  ·exact .inl (l2 e (List.mem_filter.2 ⟨he,by simpa using h⟩))
  ·exact .inr (r2 e (List.mem_filter.2 ⟨he,by simpa using h⟩)))
 by_cases h1:bZ cap ps zs L<=bZ cap ps zs t
 ·exact⟨L,l1.1,h1⟩
 by_cases h2:bZ cap ps zs R<=bZ cap ps zs t
 ·exact⟨R,r1.1,h2⟩
 exfalso
 have hLt:L≠t:=fun h=>h1 (by rw [h];exact Int.le_refl _)
 have k1:(R-t)*(bZ cap ps zs t+1)<=(R-t)*bZ cap ps zs L:=Int.mul_le_mul_of_nonneg_left za za
 have k2:(t-L)*(bZ cap ps zs t+1)<=(t-L)*bZ cap ps zs R:=Int.mul_le_mul_of_nonneg_left za za
 have k3:(R-t)*(bZ cap ps zs t+1)+(t-L)*(bZ cap ps zs t+1)=(R-L)*bZ cap ps zs t+(R-L):=by
  rw [<-Int.add_mul,show R-t+(t-L)=R-L by omega,Int.mul_add];omega
 omega
theorem costS_mono{cap:Int}(t:Int):∀(ps:List ak)(zs ys:List aG),(∀a∈ps,0<=a.bA)->zs.length=ys.length->(∀(i:Nat)(h:i<zs.length)(h':i<ys.length),zs[i].bp<=ys[i].bp∧ys[i].fTo<=zs[i].fTo)->bZ cap ps zs t<=bZ cap ps ys t
 |a::ps,z::zs,y::ys,ha,hl,h=>by
  have k1:=costS_mono (cap:=cap) t ps zs ys (fun x hx=>ha x (by simp [hx])) (by simpa using hl) (fun i h1 h2=>h (i+1) (Nat.succ_lt_succ h1) (Nat.succ_lt_succ h2))
  have k2:=h 0 sm sm
  simp only [List.getElem_cons_zero]at k2
  unfold bZ
  have:ig cap a.bA z t<=ig cap a.bA y t:=Int.mul_le_mul_of_nonneg_left (by unfold res;omega) (ha a sm)
  omega
 | [],_,_,_,_,_=>by simp [bZ]
 |_::_,[],[],_,_,_=>by simp [bZ]
 |_::_,[],_::_,_,hl,_=>by simp at hl
 |_::_,_::_,[],_,hl,_=>by simp at hl
end Go.Dw.Ek
set_option maxRecDepth 100000
set_option maxHeartbeats 4000000
namespace Go.Dw.Ek
open Go.Dw Go.Proofs
theorem search_at{t:aI}(ht:oi t)(d:Int)(hd:d<=t.bn*((t.aL.length:Int)-1)):Ok (dt (t.aF.length:Int) t d) (fun r=>(0<=r∧r<t.aF.length)∧d<=r*t.bn∧∀k,0<=k->k<r->k*t.bn<d):=by
 have hl:=ht.len;have hs:=ht.same;have hst:=ht.step
 unfold dt
 rw [Option.bind_fun_some]
 refine Ok.loop (fun s=>∃i j:Nat,s=((i:Int),(j:Int))∧i<t.aF.length∧i<=j∧j<=t.aF.length∧(j<t.aF.length->d<=(j:Int)*t.bn)∧∀k:Int,0<=k->k<i->k*t.bn<d) (fun s=>(s.2-s.1).toNat) ?_ ⟨0,t.aF.length,rfl,za,za,Nat.le_refl _,fun h=>za,fun k h0 h1=>za⟩
 rintro s ⟨i,j,rfl,i0,i1,i2,i3,i4⟩
 unfold fU
 dsimp only
 refine Ok.gC (fun hlt=>?_) (fun hge=>Ok.st ⟨⟨za,za⟩,?_,i4⟩)
 rotate_left
 ·obtain rfl:i=j:=by omega
  exact i3 i0
 have hh:=half_at (i+j) za
 rw [Int.natCast_add]at hh
 have hk1:(i+j) / 2<j:=by omega
 have hk2:i<=(i+j) / 2:=by omega
 rw [hh]
 generalize (i+j) / 2=k at*
 unfold fV
 have hb:0<=(k:Int)*t.bn∧(k:Int)*t.bn<=30*100:=⟨Int.mul_nonneg za za,Int.mul_le_mul za za za za⟩
 rw [w64 (n:=(k:Int)*t.bn) za za,zd]
 refine Ok.iteND (fun hlt=>?_) (fun hle=>Ok.nx ⟨i,k,rfl,i0,hk2,za,fun _=>hle,i4⟩ zc)
 rw [w64 za za]
 refine Ok.nx ⟨k+1,j,sm,?_,za,i2,i3,fun m h0 h1=>?_⟩ zc
 ·have h1:(k:Int)*t.bn<t.bn*((t.aL.length:Int)-1):=by omega
  rw [Int.mul_comm]at h1
  have:=Int.lt_of_mul_lt_mul_left h1 za
  omega
 ·have:m*t.bn<=(k:Int)*t.bn:=Int.mul_le_mul_of_nonneg_right za za
  omega
theorem between_at{t:aI}(ht:oi t):∀(a b:Int),0<=a->a<=b->b<=65535->Reach t b->∃x c u:Int,cb t a b=some (t.aL.getD (x.tdiv t.bn).toNat 0,t.aF.getD u.toNat 0,0)∧(0<=x∧x.tdiv t.bn<t.aL.length)∧(x*x<=a∧a<(x+1)*(x+1))∧(0<=c∧b<=c*c∧∀s,0<=s->b<=s*s->c<=s)∧(0<=u∧u<t.aF.length)∧c<=u*t.bn∧(∀k,0<=k->k<u->k*t.bn<c)∧c<=lJ t:=by
 have hl:=ht.len;have hs:=ht.same;have hst:=ht.step
 have hb:0<=t.bn*((t.aL.length:Int)-1)∧t.bn*((t.aL.length:Int)-1)<=100*30:=⟨Int.mul_nonneg za za,Int.mul_le_mul za za za za⟩
 intro a b ha hab hb' hr
 have main:Ok (cb t a b) (fun r=>∃x c u:Int,r=(t.aL.getD (x.tdiv t.bn).toNat 0,t.aF.getD u.toNat 0,0)∧(0<=x∧x.tdiv t.bn<t.aL.length)∧(x*x<=a∧a<(x+1)*(x+1))∧(0<=c∧b<=c*c∧∀s,0<=s->b<=s*s->c<=s)∧(0<=u∧u<t.aF.length)∧c<=u*t.bn∧(∀k,0<=k->k<u->k*t.bn<c)∧c<=lJ t):=by
  unfold cb
  rw [gp ht,zd,if_neg sm]
  refine Ok.gC (fun _=>za) (fun _=>Ok.gC (fun _=>za) (fun _=>?_))
  refine Ok.bind (ceil_ok b za hb') (fun c hc=>?_)
  obtain⟨hc0,hc1,hc2⟩:=hc
  have hR':c<=lJ t:=hc2 _ hb.1 hr
  unfold kC
  rw [zd,w64 (n:=(t.aL.length:Int)-1) za za,w64 za za]
  refine Ok.gC (fun h=>by unfold lJ at hR';omega) (fun h2=>?_)
  refine Ok.bind (search_at ht c za) (fun u hu=>?_)
  refine Ok.bind (floor_ok a za) (fun x hx=>?_)
  obtain⟨⟨x0,x1⟩,x2,x3⟩:=hx
  have x2:=x2 ha
  have hxc:x<=c:=by
   apply Classical.byContradiction
   intro h
   have:(c+1)*(c+1)<=x*x:=Int.mul_le_mul za za za za
   have h4:(c+1)*(c+1)=c*c+2*c+1:=by rw [Int.add_mul,Int.mul_add];omega
   omega
  refine Ok.bind (Ok.quo za) (fun q hq=>?_)
  have hq0:0<=x.tdiv t.bn:=Int.tdiv_nonneg x0 za
  have hq1:x.tdiv t.bn<=(t.aL.length:Int)-1:=by
   rw [Int.tdiv_eq_ediv_of_nonneg x0]
   exact Int.ediv_le_of_le_mul za (by rw [Int.mul_comm];omega)
  rw [w64 za za]at hq
  subst hq
  refine Ok.bind (Ok.get hq0 za) (fun p hp=>?_)
  refine Ok.bind (Ok.get hu.1.1 hu.1.2) (fun r hr'=>Ok.ret ⟨x,c,u,?_,⟨x0,za⟩,⟨x2,x3⟩,⟨hc0.1,hc1,hc2⟩,hu.1,hu.2.1,hu.2.2,hR'⟩)
  rw [List.getD_eq_getElem?_getD,List.getD_eq_getElem?_getD,hp.2,hr'.2];rfl
 obtain⟨r,e,x,c,u,hr,h⟩:=main
 exact⟨x,c,u,by rw [e,hr],h⟩
theorem between_le{t:aI}(ht:oi t){n f n' f':Int}(h0:0<=n)(h1:n<=n')(h2:n'<=f')(h3:f'<=f)(hf:f<=65535)(hR:Reach t f):
  ∃lo hi lo' hi',cb t n f=some (lo,hi,0)∧cb t n' f'=some (lo',hi',0)∧lo<=lo'∧hi'<=hi:=by
 have hl:=ht.len;have hs:=ht.same;have hst:=ht.step
 have hb:0<=t.bn*((t.aL.length:Int)-1)∧t.bn*((t.aL.length:Int)-1)<=100*30:=⟨Int.mul_nonneg za za,Int.mul_le_mul za za za za⟩
 have hR':Reach t f':=Int.le_trans h3 hR
 obtain⟨x,c,u,e,⟨x0,x1⟩,⟨x2,x3⟩,⟨c0,c1,c2⟩,⟨u0,u1⟩,u2,u3, -⟩:=between_at ht n f h0 za hf hR
 obtain⟨x',c',u',e',⟨y0,y1⟩,⟨y2,y3⟩,⟨d0,d1,d2⟩,⟨v0,v1⟩,v2,v3, -⟩:=between_at ht n' f' za h2 za hR'
 refine⟨_,_,_,_,e,e',?_,?_⟩
 ·have hx:x<=x':=by
   apply Classical.byContradiction
   intro h
   have:(x'+1)*(x'+1)<=x*x:=Int.mul_le_mul za za za za
   omega
  have hd:x.tdiv t.bn<=x'.tdiv t.bn:=by
   rw [Int.tdiv_eq_ediv_of_nonneg x0,Int.tdiv_eq_ediv_of_nonneg y0]
   exact Int.ediv_le_ediv za hx
  have k0:0<=x.tdiv t.bn:=Int.tdiv_nonneg x0 za
  have:=asc_le ht.low (i:=(x.tdiv t.bn).toNat) (j:=(x'.tdiv t.bn).toNat) za za
  rw [List.getD_eq_getElem?_getD,List.getD_eq_getElem?_getD,ze za,ze za]
  exact this
 ·have hc:c'<=c:=d2 _ c0 za
  have hu:u'<=u:=by
   apply Classical.byContradiction
   intro h
   have:=v3 u u0 za
   omega
  have:=asc_le ht.high (i:=u'.toNat) (j:=u.toNat) za za
  rw [List.getD_eq_getElem?_getD,List.getD_eq_getElem?_getD,ze za,ze za]
  exact this
theorem near_mono{r b:ai}(h:Sub r b)(p:aa):nz r p<=nz b p:=by
 obtain⟨h1,h2,h3⟩:=h
 have k:∀x l h l' h':Int,l'<=l->l<=h->h<=h'->ne x l' h'*ne x l' h'<=ne x l h*ne x l h:=fun x l h l' h' a b c=>sq_le (by unfold ne;omega) (by unfold ne;omega)
 have:=k p.fX _ _ _ _ h1.1 h1.2.1 h1.2.2
 have:=k p.fY _ _ _ _ h2.1 h2.2.1 h2.2.2
 have:=k p.fZ _ _ _ _ h3.1 h3.2.1 h3.2.2
 unfold nz;omega
theorem Sub.trans{a b c:ai}(h:Sub a b)(h':Sub b c):Sub a c:=by
 obtain⟨h1,h2,h3⟩:=h
 obtain⟨k1,k2,k3⟩:=h'
 exact⟨⟨za,za,za⟩,⟨za,za,za⟩,za,za,za⟩
noncomputable def zn (q:ag) (b:ai) (a:ak):aG:=((dC q.bi b a).getD (⟨0,0⟩,0)).1
theorem zn_at{q:ag}(hq:PV q){b:ai}(h:Sub q.aO b){a:ak}(ha:a∈q.ba):dC q.bi b a=some (zn q b a,0)∧eB (zn q b a):=by
 obtain⟨r,e,h1,h2⟩:=sub_zone hq h ha
 unfold zn
 rw [e]
 exact⟨by rw [<-h1];rfl,h2⟩
theorem zn_le{q:ag}(hq:PV q){b c:ai}(h:Sub q.aO b)(h':Sub b c){a:ak}(ha:a∈q.ba):(zn q b a).bp<=(zn q c a).bp∧(zn q c a).fTo<=(zn q b a).fTo:=by
 obtain⟨hv,hr⟩:=hq.ph a ha
 have hb:=h.ok hq.box hq.reg
 have hc:=(h.trans h').ok hq.box hq.reg
 obtain⟨hp,p1,p2,p3,p4⟩:=hv
 have hva:dP a=some true:=by
  refine Ok.eq ?_
  unfold dP
  rw [iT hp,zd,if_pos rfl,if_pos (by simpa using p1),if_pos (by simpa using p2),if_pos (by simpa using p3),if_pos (by simp [p4])]
  exact Ok.ret (by simp [p4])
 obtain⟨n1,n2, -⟩:=p7 hb hp
 obtain⟨f1, -,f3⟩:=Far_at hb hp
 obtain⟨m1,m2, -⟩:=p7 hc hp
 obtain⟨g1, -,g3⟩:=Far_at hc hp
 obtain⟨lo,hi,lo',hi',e1,e2,l1,l2⟩:=between_le hq.tab n2 (near_mono h' a.aN) (oP hc _) (far_mono h' a.aN) za (Int.le_trans (far_mono h _) hr)
 have zb:∀{b:ai}(hb:fu b){lo hi:Int},eU b a.aN=some (nz b a.aN)->gx b a.aN=some (mY b a.aN)->cb q.bi (nz b a.aN) (mY b a.aN)=some (lo,hi,0)->
   dC q.bi b a=some (⟨IntKind.wrap .i64 (a.aK-hi),IntKind.wrap .i64 (a.bf-lo)⟩,0):=by
  intro b hb lo hi h1 h2 h3
  unfold dC
  rw [gp hq.tab,zd,if_neg sm,dJ hb,zd,if_neg sm,hva,zd,if_neg sm]
  unfold f5 je
  rw [gp hq.tab,zd,if_neg sm,dJ hb,zd,if_neg sm,iT hp,zd,if_neg sm,h1,h2]
  simp only [zd]
  rw [h3];rfl
 have bb:Ok (cb q.bi (nz b a.aN) (mY b a.aN)) _:=nH hq.tab _ _ n2 (oP hb _) za
 have cc:Ok (cb q.bi (nz c a.aN) (mY c a.aN)) _:=nH hq.tab _ _ m2 (oP hc _) za
 obtain⟨r,e,hr1⟩:=bb
 obtain⟨r',e',hr2⟩:=cc
 rw [e1]at e;rw [e2]at e'
 cases e;cases e'
 have hr1:=hr1.2 rfl
 have hr2:=hr2.2 rfl
 have z1:zn q b a=⟨IntKind.wrap .i64 (a.aK-hi),IntKind.wrap .i64 (a.bf-lo)⟩:=by unfold zn;rw [zb hb n1 f1 e1];rfl
 have z2:zn q c a=⟨IntKind.wrap .i64 (a.aK-hi'),IntKind.wrap .i64 (a.bf-lo')⟩:=by unfold zn;rw [zb hc m1 g1 e2];rfl
 rw [z1,z2]
 simp only at hr1 hr2⊢
 rw [w64 (n:=a.aK-hi) za za,w64 (n:=a.aK-hi') za za,w64 (n:=a.bf-lo) za za,w64 (n:=a.bf-lo') za za]
 omega
theorem zones_at{q:ag}(hq:PV q){b:ai}(h:Sub q.aO b):fD q b=some (q.ba.map (zn q b),0):=by
 have hl:=hq.len
 refine Ok.eq ?_
 unfold fD
 rw [mV hq,zd,if_neg sm,within_at hq.box hq.reg h,zd,if_neg sm]
 refine Ok.bind (P:=fun r=>r=(q.ba.map (zn q b),0)) ?_ (fun r hr=>by subst hr;exact Ok.ret rfl)
 unfold l7
 refine Ok.bind (Ok.mkC za za za za) (fun x hx=>?_)
 subst hx
 refine Ok.bind (P:=fun o=>o= .inl (q.ba.map (zn q b))) (Ok.loop (fun s:Int×List aG=>(0<=s.1∧s.1<=q.ba.length)∧s.2=(q.ba.take s.1.toNat).map (zn q b)) (fun s=>((q.ba.length:Int)-s.1).toNat) ?_ ⟨⟨sm,sm⟩,sm⟩) (fun o ho=>by subst ho;exact Ok.ret rfl)
 rintro⟨s2,s3⟩ ⟨⟨i0,i1⟩,i2⟩
 simp only at i0 i1 i2
 subst i2
 unfold kR
 refine Ok.gC (fun hlt=>?_) (fun _=>Ok.st ?_)
 rotate_left
 ·rw [List.take_of_length_le za]
 refine Ok.bind (Ok.get za za) (fun a ha=>?_)
 rw [(zn_at hq h ha.1).1,zd,if_neg sm]
 have ht:(List.map (zn q b) (List.take s2.toNat q.ba)).length<=64:=by rw [List.length_map,List.length_take];omega
 refine Ok.bind (Ok.app (by simp only [List.length_cons,List.length_nil];omega)) (fun y hy=>?_)
 subst hy
 rw [w64 za za]
 refine Ok.nx ⟨⟨zc,zc⟩,?_⟩ zc
 simp only
 rw [show(s2+1).toNat=s2.toNat+1 by omega,List.take_add_one,ha.2]
 simp
theorem res_at{z:aG}(hz:eB z){t:Int}(ht: -5000<=t∧t<=18014398509481984):fo z t=some (res z t):=by
 obtain⟨z1,z2,z3⟩:=hz
 unfold fo
 rw [w64 (n:=t-z.fTo) za za,w64 (n:=z.bp-t) za za]
 congr 1
 unfold res
 split<;>split<;>omega
theorem nK{cap:Int}(hc:0<=cap){t:Int}:∀(ps:List ak)(zs:List aG),(∀a∈ps,0<=a.bA)->0<=bZ cap ps zs t
 |a::ps,z::zs,ha=>by
  have k1:=nK hc (t:=t) ps zs (fun x hx=>ha x (by simp [hx]))
  have k2:0<=ig cap a.bA z t:=Int.mul_nonneg (ha a sm) (by unfold res;omega)
  unfold bZ;omega
 | [],_,_=>by simp [bZ]
 |_::_,[],_=>by simp [bZ]
theorem cost_at{q:ag}(hq:PV q){l:List aG}(hll:l.length=q.ba.length)(hz:∀z∈l,eB z){t:Int}(ht: -5000<=t∧t<=18014398509481984):iu q l t=some (bZ q.da q.ba l t):=by
 have hl:=hq.len;have hc:=hq.cap
 refine Ok.eq ?_
 unfold iu
 refine Ok.bind (P:=fun o=>o=bZ q.da q.ba l t) (Ok.loop (fun s:Int×Int=>(0<=s.2∧s.2<=q.ba.length)∧(0<=s.1∧s.1<=1000*s.2)∧s.1+bZ q.da (q.ba.drop s.2.toNat) (l.drop s.2.toNat) t=bZ q.da q.ba l t) (fun s=>((q.ba.length:Int)-s.2).toNat) ?_ ⟨⟨sm,sm⟩,⟨sm,sm⟩,sm⟩) (fun o ho=>by subst ho;exact Ok.ret rfl)
 rintro⟨s1,s2⟩ ⟨⟨i0,i1⟩,⟨i2,i3⟩,i4⟩
 simp only at i0 i1 i2 i3 i4
 unfold lG
 refine Ok.gC (fun hlt=>?_) (fun hge=>Ok.st ?_)
 rotate_left
 ·rw [List.drop_eq_nil_of_le za]at i4
  simp [bZ]at i4;exact i4
 refine Ok.bind (Ok.get za za) (fun a ha=>?_)
 refine Ok.gC (fun hlz=>?_) (fun h=>za)
 refine Ok.bind (Ok.get za za) (fun z hz'=>?_)
 rw [res_at (hz z hz'.1) ht,zd,w64 (n:=s2+1) za za]
 have hw:a.bA=1:=(hq.ph a ha.1).1.weight
 have e1:(if res z t<q.da then res z t else q.da)=min q.da (res z t):=by split<;>omega
 have hr:0<=res z t:=by unfold res;omega
 have e2:ig q.da a.bA z t=min q.da (res z t):=by unfold ig;rw [hw,Int.one_mul]
 rw [e1,hw,Int.one_mul,w64 (n:=min q.da (res z t)) za za,w64 za za]
 refine Ok.nx ⟨⟨zc,zc⟩,⟨zc,zc⟩,?_⟩ zc
 simp only
 rw [show(s2+1).toNat=s2.toNat+1 by omega]
 obtain⟨j1,ea⟩:=List.getElem?_eq_some_iff.1 ha.2
 obtain⟨j2,ez⟩:=List.getElem?_eq_some_iff.1 hz'.2
 rw [List.drop_eq_getElem_cons j1,List.drop_eq_getElem_cons j2,ea,ez]at i4
 have i5:s1+(ig q.da a.bA z t+bZ q.da (q.ba.drop (s2.toNat+1)) (l.drop (s2.toNat+1)) t)=bZ q.da q.ba l t:=i4
 rw [e2]at i5
 omega
structure BestE(q:ag)(l:List aG)(r:Int×Int):Prop where
 mem:r.1∈ends l
 cost:r.2=bZ q.da q.ba l r.1
 least:∀e∈ends l,r.2<=bZ q.da q.ba l e
theorem ends_snoc{l:List aG}{z:aG}:ends (l++[z])=ends l++[z.bp,z.fTo]:=by
 induction l with
 |nil=>rfl
 |cons y ys ih=>simp [ends,ih]
theorem ends_len{l:List aG}:(ends l).length=2*l.length:=by
 induction l with
 |nil=>rfl
 |cons y ys ih=>simp [ends,ih];omega
theorem best_at{q:ag}(hq:PV q){l:List aG}(hll:l.length=q.ba.length)(hz:∀z∈l,eB z):Ok (ir q l) (BestE q l):=by
 have hl:=hq.len
 have hend:∀e∈ends l, -5000<=e∧e<=18014398509481984:=by
  intro e he
  obtain⟨z,h1,h2⟩:=mem_ends.1 he
  obtain⟨z1,z2,z3⟩:=hz z h1
  omega
 unfold ir
 rw [w64 (n:=2*(l.length:Int)) za za]
 refine Ok.bind (Ok.mkC za za za za) (fun x hx=>?_)
 subst hx
 refine Ok.bind (P:=fun o:List Int=>o=ends l) (Ok.loop (fun s:Int×List Int=>(0<=s.1∧s.1<=l.length)∧s.2=ends (l.take s.1.toNat)) (fun s=>((l.length:Int)-s.1).toNat) ?_ ⟨⟨sm,sm⟩,by simp [ends]⟩) (fun o ho=>?_)
 ·rintro⟨s2,s3⟩ ⟨⟨i0,i1⟩,i2⟩
  simp only at i0 i1 i2
  subst i2
  unfold mw
  refine Ok.gC (fun hlt=>?_) (fun _=>Ok.st (by rw [List.take_of_length_le za]))
  refine Ok.bind (Ok.get za za) (fun z hz=>?_)
  have ht:(ends (List.take s2.toNat l)).length<=128:=by rw [ends_len,List.length_take];omega
  refine Ok.bind (Ok.app (by simp only [List.length_cons,List.length_nil];omega)) (fun y hy=>?_)
  subst hy
  rw [w64 za za]
  refine Ok.nx ⟨⟨zc,zc⟩,?_⟩ zc
  simp only
  rw [show(s2+1).toNat=s2.toNat+1 by omega,List.take_add_one,hz.2,Option.toList_some,ends_snoc]
 ·subst ho
  have hn:(ends l).length=2*l.length:=ends_len
  refine Ok.rN (fun h=>za) (fun _=>?_)
  refine Ok.bind (Ok.rK za za) (fun _ _=>Ok.bind (Ok.get za za) (fun x14 g14=>?_))
  refine Ok.bind (Ok.rK za za) (fun _ _=>Ok.bind (Ok.get za za) (fun x17 g17=>?_))
  have e17:x17=x14:=Option.some.inj (g17.2.symm.trans g14.2)
  subst e17
  rw [cost_at hq hll hz (hend _ g17.1),zd]
  refine Ok.bind (Ok.sub za za za) (fun _ _=>?_)
  refine Ok.bind (Ok.lenv za za) (fun n hn'=>?_)
  have hn2:n=2*(l.length:Int)-1:=by simp at hn';omega
  have hx0:∀(i:Nat)e,(ends l)[i]? =some e->i<1->e=x17:=by
   intro i e h hi
   have:i=0:=by omega
   subst this
   exact Option.some.inj (h.symm.trans g17.2)
  refine Ok.bind (P:=fun o=>BestE q l o) (Ok.loop (fun s:Int×Int×Int=>(0<=s.2.2∧s.2.2<=n)∧s.1∈ends l∧s.2.1=bZ q.da q.ba l s.1∧∀(i:Nat)e,(ends l)[i]? =some e->i<s.2.2.toNat+1->s.2.1<=bZ q.da q.ba l e) (fun s=>(n-s.2.2).toNat) ?_ ⟨⟨sm,zc⟩,g17.1,rfl,fun i e h hi=>by rw [hx0 i e h (by simpa using hi)];exact Int.le_refl _⟩) (fun o ho=>Ok.ret ho)
  rintro⟨s1,s2,s3⟩ ⟨⟨i0,i1⟩,i2,i3,i4⟩
  simp only at i0 i1 i2 i3 i4
  unfold lF
  refine Ok.gC (fun hlt=>?_) (fun hge=>Ok.st ⟨i2,i3,fun e he=>?_⟩)
  rotate_left
  ·obtain⟨i,hi,rfl⟩:=List.getElem_of_mem he
   exact i4 i _ (ze hi) za
  refine Ok.bind (Ok.inv za za za) (fun _ _=>?_)
  refine Ok.bind (Ok.get za za) (fun x29 g29=>?_)
  rw [cost_at hq hll hz (hend _ g29.1),zd]
  rw [w64 za za]
  have hidx:((0+(1:Int).toNat+s3.toNat:Nat):Int).toNat=s3.toNat+1:=by simp;omega
  rw [hidx]at g29
  have A : ∀ (u v : Int), u ∈ ends l → v = bZ q.da q.ba l u → v ≤ s2 → v ≤ bZ q.da q.ba l x29 → Ok (some (.next (u, v, s3 + 1)) : Option (fK (Int × Int × Int) (Int × Int))) (Ok.S (fun s : Int × Int × Int => (0 ≤ s.2.2 ∧ s.2.2 ≤ n) ∧ s.1 ∈ ends l ∧ s.2.1 = bZ q.da q.ba l s.1 ∧ ∀ (i : Nat) e, (ends l)[i]? = some e → i < s.2.2.toNat + 1 → s.2.1 ≤ bZ q.da q.ba l e) (fun s => (n - s.2.2).toNat) (BestE q l) (s1, s2, s3)) := fun u v h1 h2 h3 h4 => Ok.nx ⟨⟨zc, zc⟩, h1, h2, fun i e he hi => by
   simp only at hi⊢
   rw [show(s3+1).toNat=s3.toNat+1 by omega]at hi
   rcases Nat.lt_or_ge i (s3.toNat+1)with h|h
   ·exact Int.le_trans h3 (i4 i e he h)
   ·have:i=s3.toNat+1:=by omega
    subst this
    rw [g29.2]at he
    cases he;exact h4⟩ zc
  refine Ok.gC (fun h=>A _ _ g29.1 rfl za (Int.le_refl _)) (fun h=>Ok.rN (fun h'=>Ok.gC (fun _=>A _ _ g29.1 rfl za (Int.le_refl _)) (fun _=>A _ _ i2 i3 (Int.le_refl _) za)) (fun _=>A _ _ i2 i3 (Int.le_refl _) za))
noncomputable def mis (q:ag) (p:aa):Int:=((gW q p).getD (0,0,0)).2.1
noncomputable def bnd (q:ag) (b:ai):Int:=((eO q b).getD (0,0)).1
theorem bnd_at{q:ag}(hq:PV q){b:ai}(h:Sub q.aO b):eO q b=some (bnd q b,0)∧∃t,BestE q (q.ba.map (zn q b)) (t,bnd q b):=by
 obtain⟨r,e,hr⟩:=best_at hq (l:=q.ba.map (zn q b)) sm (fun z hz=>by obtain⟨a,ha,rfl⟩:=List.mem_map.1 hz;exact(zn_at hq h ha).2)
 have:eO q b=some (r.2,0):=by unfold eO;rw [zones_at hq h,zd,if_neg sm,e];rfl
 unfold bnd
 rw [this]
 exact⟨rfl,r.1,hr⟩
theorem oJ{q:ag}(hq:PV q){p:aa}(h:Sub q.aO ⟨p,p⟩):∃t,gW q p=some (t,mis q p,0)∧BestE q (q.ba.map (zn q ⟨p,p⟩)) (t,mis q p):=by
 obtain⟨r,e,hr⟩:=best_at hq (l:=q.ba.map (zn q ⟨p,p⟩)) sm (fun z hz=>by obtain⟨a,ha,rfl⟩:=List.mem_map.1 hz;exact(zn_at hq h ha).2)
 have:gW q p=some (r.1,r.2,0):=by unfold gW;rw [zones_at hq h,zd,if_neg sm,e];rfl
 unfold mis
 rw [this]
 exact⟨_,rfl,hr⟩
theorem bnd_le{q:ag}(hq:PV q){b:ai}(h:Sub q.aO b){p:aa}(hp:Sub b ⟨p,p⟩):bnd q b<=mis q p:=by
 obtain⟨-,t,h1,h2,h3⟩:=bnd_at hq h
 obtain⟨t', -,k1,k2,k3⟩:=oJ hq (h.trans hp)
 simp only at h1 h2 h3 k1 k2 k3
 have hl:=hq.len;have hc:=hq.cap
 have hw:∀a∈q.ba,0<=a.bA:=fun a ha=>by have:=(hq.ph a ha).1.weight;omega
 obtain⟨e,he,hle⟩:=least_end (cap:=q.da) za (ps:=q.ba) (zs:=q.ba.map (zn q b)) (by intro h;simp at h;simp [h]at hl) hw (fun z hz=>by obtain⟨a,ha,rfl⟩:=List.mem_map.1 hz;exact(zn_at hq h ha).2.2.1) t'
 have hm := costS_mono (cap := q.da) t' q.ba (q.ba.map (zn q b)) (q.ba.map (zn q ⟨p, p⟩)) hw sm (fun i h1 h2 => by
  simp only [List.getElem_map]
  exact zn_le hq h hp (List.getElem_mem _))
 have:=h3 e he
 omega
end Go.Dw.Ek
set_option maxRecDepth 100000
set_option maxHeartbeats 4000000
namespace Go.Dw.Ek
open Go.Dw Go.Proofs
def leI(a b:Item):Prop:=a.ch<b.ch∨(a.ch=b.ch∧a.gw<=b.gw)
instance (a b:Item):Decidable (leI a b):=by unfold leI;exact inferInstance
theorem qi(a:Item):leI a a:=by unfold leI;omega
theorem pa{a b c:Item}(h:leI a b)(h':leI b c):leI a c:=by unfold leI at*;omega
theorem leI_total{a b:Item}(h:¬leI a b):leI b a:=by unfold leI at*;omega
def it0:Item:=⟨⟨⟨0,0,0⟩,⟨0,0,0⟩⟩,0,0⟩
def at_(d:List Item)(i:Nat):Item:=d.getD i it0
theorem mX{d:List Item}{i:Nat}{x:Item}(h:d[i]? =some x):at_ d i=x:=by
 unfold at_;rw [List.getD_eq_getElem?_getD,h];rfl
theorem cmp_or2(a b:Int):cv [a,b]=some (if a≠0 then a else b):=by
 unfold cv
 rw [show((0:Int))=((0:Nat):Int)from rfl,Sd.or_go (l:=[a,b]) (n:=0) (r:=[a,b]) sm za sm]
 by_cases h1:a=0
 ·by_cases h2:b=0
  ·simp [h1,h2]
  ·simp [h1,h2]
 ·simp [h1]
theorem less_at{d:List Item}{i j:Int}(hi:0<=i∧i<d.length)(hj:0<=j∧j<d.length):ix d i j=some (decide (¬leI (at_ d j.toNat) (at_ d i.toNat))):=by
 refine Ok.eq ?_
 unfold ix
 refine Ok.bind (Ok.get hi.1 hi.2) (fun a ga=>?_)
 refine Ok.bind (Ok.get hj.1 hj.2) (fun b gb=>?_)
 rw [Sd.jY,zd]
 refine Ok.bind (Ok.get hi.1 hi.2) (fun a' ga'=>?_)
 refine Ok.bind (Ok.get hj.1 hj.2) (fun b' gb'=>?_)
 rw [Sd.jY,zd]
 obtain rfl:a'=a:=Option.some.inj (ga'.2.symm.trans ga.2)
 obtain rfl:b'=b:=Option.some.inj (gb'.2.symm.trans gb.2)
 rw [cmp_or2,mX ga.2,mX gb.2]
 refine Ok.ret ?_
 rw [decide_eq_decide]
 unfold leI qF
 split<;>split<;>(try split)<;>(try split)<;>omega
theorem swap_at{d:List Item}{i j:Int}(hi:0<=i∧i<d.length)(hj:0<=j∧j<d.length):
  Ok (iy i j d) (fun r=>r.Perm d∧∀k:Nat,at_ r k=if k=j.toNat then at_ d i.toNat else if k=i.toNat then at_ d j.toNat else at_ d k):=by
 unfold iy
 refine Ok.bind (Ok.rK hj.1 hj.2) (fun _ _=>Ok.bind (Ok.get hj.1 hj.2) (fun a ga=>?_))
 refine Ok.bind (Ok.rK hi.1 hi.2) (fun _ _=>Ok.bind (Ok.get hi.1 hi.2) (fun b gb=>?_))
 refine Ok.bind (Ok.rK hi.1 hi.2) (fun _ _=>Ok.bind (Ok.set hi.1 hi.2) (fun e he=>?_))
 subst he
 refine Ok.bind (Ok.rK hj.1 (by simpa using hj.2)) (fun _ _=>Ok.bind (Ok.set hj.1 (by simpa using hj.2)) (fun e he=>?_))
 subst he
 have h1:i.toNat<d.length:=by omega
 have h2:j.toNat<d.length:=by omega
 have ea:=mX ga.2
 have eb:=mX gb.2
 obtain⟨_,rfl⟩:=List.getElem?_eq_some_iff.1 ga.2
 obtain⟨_,rfl⟩:=List.getElem?_eq_some_iff.1 gb.2
 refine Ok.ret ⟨List.set_set_perm h1 h2,fun k=>?_⟩
 split
 ·rename_i hk;subst hk
  rw [eb];exact mX (by rw [List.getElem?_set_self (by simpa using h2)])
 ·rename_i hk
  split
  ·rename_i hk';subst hk'
   rw [ea];exact mX (by rw [List.getElem?_set_ne (Ne.symm hk),List.getElem?_set_self h1])
  ·rename_i hk'
   unfold at_
   rw [List.getD_eq_getElem?_getD,List.getD_eq_getElem?_getD,List.getElem?_set_ne (Ne.symm hk),List.getElem?_set_ne (Ne.symm hk')]
def pD(d:List Item)(n:Nat):Prop:=∀i,0<i->i<n->leI (at_ d ((i-1) / 2)) (at_ d i)
theorem pD.root{d:List Item}{n:Nat}(h:pD d n):∀i,i<n->leI (at_ d 0) (at_ d i):=by
 intro i
 induction i using Nat.strongRecOn with
 |_ i ih=>
  intro hi
  by_cases h0:i=0
  ·subst h0;exact qi _
  ·exact pa (ih ((i-1) / 2) za za) (h i za hi)
theorem up_heap{q:ag}{a b:Int}{f:Bool}{l:aj}{d:List Item}{j:Int}(hj:0<=j∧j<d.length)(hd:d.length<=1000)
  (h1:∀i,0<i->i<d.length->i≠j.toNat->leI (at_ d ((i-1) / 2)) (at_ d i)) (h2:∀c,0<j.toNat->c<d.length->0<c->(c-1) / 2=j.toNat->leI (at_ d ((j.toNat-1) / 2)) (at_ d c)):
  Ok (nN j q a b f l d) (fun r=>r.Perm d∧pD r d.length):=by
 unfold nN
 refine Ok.bind (P:=fun o:List Item=>o.Perm d∧pD o d.length) (Ok.loop (fun s:Int×List Item=>(0<=s.1∧s.1<d.length)∧s.2.Perm d∧(∀i,0<i->i<d.length->i≠s.1.toNat->leI (at_ s.2 ((i-1) / 2)) (at_ s.2 i))∧(∀c,0<s.1.toNat->c<d.length->0<c->(c-1) / 2=s.1.toNat->leI (at_ s.2 ((s.1.toNat-1) / 2)) (at_ s.2 c))) (fun s=>s.1.toNat) ?_ ⟨hj,List.Perm.refl _,h1,h2⟩) (fun o ho=>Ok.ret ho)
 rintro⟨s1,s2⟩ ⟨⟨i0,i1⟩,i2,i3,i4⟩
 simp only at i0 i1 i2 i3 i4
 have hlen:s2.length=d.length:=i2.length_eq
 unfold mK
 dsimp only
 rw [w64 (n:=s1-1) za za]
 have e:rr .i64 (s1-1) 2=some (if s1=0 then 0 else(s1-1) / 2):=by
  unfold rr
  rw [if_neg za]
  split
  ·rename_i h;subst h;rfl
  ·rw [Int.tdiv_eq_ediv_of_nonneg za,w64 za za]
 rw [e,zd]
 refine Ok.rN (fun he=>?_) (fun hne=>?_)
 ·rw [zd]
  refine Ok.st ⟨i2,fun i h0 hi=>i3 i h0 hi ?_⟩
  split at he<;>omega
 have hp:s1≠0:=fun h=>hne (by rw [if_pos h,h])
 rw [if_neg hp]
 have hpn:((s1-1) / 2).toNat=(s1.toNat-1) / 2:=by omega
 rw [less_at za za,zd]
 refine Ok.uT (fun hf=>?_) (fun hlt=>?_)
 ·rw [zd]
  refine Ok.st ⟨i2,fun i h0 hi=>?_⟩
  by_cases h:i=s1.toNat
  ·subst h
   rw [<-hpn]
   simpa using hf
  ·exact i3 i h0 hi h
 ·have hlt:¬leI (at_ s2 ((s1-1) / 2).toNat) (at_ s2 s1.toNat):=by simpa using hlt
  have hle:=leI_total hlt
  rw [hpn]at hle
  refine Ok.bind (swap_at za za) (fun y⟨y1,y2⟩=>Ok.nx ⟨⟨zc,zc⟩,y1.trans i2,?_,?_⟩ zc)
  ·simp only
   intro i h0 hi hne'
   rw [hpn]at hne'
   rw [y2,y2,hpn]
   by_cases hij:i=s1.toNat
   ·subst hij
    rw [if_pos rfl,if_neg za,if_pos rfl];exact hle
   ·rw [if_neg hij,if_neg hne']
    by_cases hc:(i-1) / 2=s1.toNat
    ·rw [if_pos hc]
     exact i4 i za hi h0 hc
    ·rw [if_neg hc]
     by_cases hc':(i-1) / 2=(s1.toNat-1) / 2
     ·rw [if_pos hc']
      have:=i3 i h0 hi hij
      rw [hc']at this
      exact pa hle this
     ·rw [if_neg hc'];exact i3 i h0 hi hij
  ·simp only
   intro c h0 hc hc0 hcp
   rw [hpn]at h0 hcp⊢
   rw [y2,y2,if_neg za,if_neg (by rw [hpn];omega),hpn]
   have k1:=i3 ((s1.toNat-1) / 2) za za za
   by_cases hcs:c=s1.toNat
   ·rw [if_pos hcs];exact k1
   ·rw [if_neg hcs,if_neg za]
    have k2:=i3 c hc0 hc hcs
    rw [hcp]at k2
    exact pa k1 k2
theorem down_heap{q:ag}{a b:Int}{f:Bool}{l:aj}{d:List Item}{n:Int}(hn:0<=n∧n<d.length)(hd:d.length<=1000)(h1:∀c,0<c->c<n.toNat->(c-1) / 2≠0->leI (at_ d ((c-1) / 2)) (at_ d c)):
  Ok (mf 0 n q a b f l d) (fun r=>(r.2.Perm d∧at_ r.2 n.toNat=at_ d n.toNat)∧pD r.2 n.toNat):=by
 unfold mf
 let I:Int×List Item->Prop:=fun s=>(0<=s.1∧s.1<=n)∧(s.2.Perm d∧at_ s.2 n.toNat=at_ d n.toNat)∧(∀c,0<c->c<n.toNat->(c-1) / 2≠s.1.toNat->leI (at_ s.2 ((c-1) / 2)) (at_ s.2 c))∧(∀c,0<s.1.toNat->0<c->c<n.toNat->(c-1) / 2=s.1.toNat->leI (at_ s.2 ((s.1.toNat-1) / 2)) (at_ s.2 c))
 let Q:Int×List Item->Prop:=fun o=>(o.2.Perm d∧at_ o.2 n.toNat=at_ d n.toNat)∧pD o.2 n.toNat
 refine Ok.bind (P:=Q) (Ok.loop I (fun s=>(n-s.1).toNat) ?_ ⟨⟨sm,hn.1⟩,⟨List.Perm.refl _,rfl⟩,fun c h0 hc hp=>h1 c h0 hc hp,fun c h0=>by simp at h0⟩) (fun o ho=>Ok.ret ho)
 rintro⟨s1,s2⟩ ⟨⟨i0,i1⟩,⟨i2,i3⟩,i4,i5⟩
 simp only at i0 i1 i2 i3 i4 i5
 have hlen:s2.length=d.length:=i2.length_eq
 unfold mZ
 dsimp only
 rw [w64 (n:=2*s1) za za,w64 (n:=2*s1+1) za za,w64 (n:=2*s1+1+1) za za]
 refine Ok.gC (fun hge=>Ok.st ⟨⟨i2,i3⟩,fun c h0 hc=>i4 c h0 hc za⟩) (fun hlt1=>Ok.gC (fun _=>za) (fun _=>?_))
 have K:∀j:Int,(j=2*s1+1∨j=2*s1+2)->j<n->(∀c,0<c->c<n.toNat->(c-1) / 2=s1.toNat->leI (at_ s2 j.toNat) (at_ s2 c))->Ok (eV s2 s1 j) (Ok.S I (fun s=>(n-s.1).toNat) Q (s1,s2)):=fun j hj hjn hmin=>by
  unfold eV
  rw [less_at za za,zd]
  refine Ok.uT (fun hf=>Ok.st ⟨⟨i2,i3⟩,fun c h0 hc=>?_⟩) (fun hlt=>?_)
  ·have hf:leI (at_ s2 s1.toNat) (at_ s2 j.toNat):=by simpa using hf
   by_cases hcp:(c-1) / 2=s1.toNat
   ·rw [hcp];exact pa hf (hmin c h0 hc hcp)
   ·exact i4 c h0 hc hcp
  ·have hlt:¬leI (at_ s2 s1.toNat) (at_ s2 j.toNat):=by simpa using hlt
   have hle:=leI_total hlt
   refine Ok.bind (swap_at za za) (fun y⟨y1,y2⟩=>Ok.nx ⟨⟨zc,zc⟩,⟨y1.trans i2,?_⟩,?_,?_⟩ zc)
   ·simp only
    rw [y2,if_neg za,if_neg za];exact i3
   ·simp only
    intro c h0 hc hcp
    rw [y2,y2]
    by_cases hcj:c=j.toNat
    ·rw [if_pos hcj,if_neg za,if_pos za];exact hle
    rw [if_neg hcj,if_neg hcp]
    by_cases hcp':(c-1) / 2=s1.toNat
    ·rw [if_pos hcp',if_neg za];exact hmin c h0 hc hcp'
    rw [if_neg hcp']
    by_cases hcs:c=s1.toNat
    ·rw [if_pos hcs]
     have:=i5 j.toNat za za za za
     rw [hcs];exact this
    ·rw [if_neg hcs];exact i4 c h0 hc hcp'
   ·simp only
    intro c h0 hc0 hc hcp
    rw [y2,y2,if_neg za,if_pos za,if_neg za,if_neg za]
    have:=i4 c hc0 hc za
    rw [hcp]at this;exact this
 have two:∀c,0<c->(c-1) / 2=s1.toNat->c=(2*s1+1).toNat∨c=(2*s1+1+1).toNat:=fun c h0 hc=>by omega
 refine Ok.gC (fun h2 => ?_) (fun h2 => K _ (.inl rfl) za (fun c h0 hc hcp => by
  rcases two c h0 hcp with h|h
  ·rw [h];exact qi _
  ·omega))
 rw [less_at za za,zd]
 refine Ok.yk (fun hlt=>?_) (fun hf=>?_)
 ·have hlt:¬leI (at_ s2 (2*s1+1).toNat) (at_ s2 (2*s1+1+1).toNat):=by simpa using hlt
  exact K _ (.inr za) za (fun c h0 hc hcp => by
   rcases two c h0 hcp with h|h
   ·rw [h];exact leI_total hlt
   ·rw [h];exact qi _)
 ·have hf:leI (at_ s2 (2*s1+1).toNat) (at_ s2 (2*s1+1+1).toNat):=by simpa using hf
  exact K _ (.inl rfl) za (fun c h0 hc hcp => by
   rcases two c h0 hcp with h|h
   ·rw [h];exact qi _
   ·rw [h];exact hf)
theorem at_take{d:List Item}{n i:Nat}(h:i<n):at_ (d.take n) i=at_ d i:=by
 unfold at_
 rw [List.getD_eq_getElem?_getD,List.getD_eq_getElem?_getD,List.getElem?_take,if_pos h]
theorem pop_heap{q:ag}{a b:Int}{f:Bool}{l:aj}{x:Item}{d:List Item}(hd:(x::d).length<=1000)(hh:pD (x::d) (d.length+1)):Ok (nq q a b f l (x::d)) (fun r=>r.2.Perm d∧pD r.2 d.length):=by
 have hlen:((x::d).length:Int)=d.length+1:=by simp
 simp only [List.length_cons]at hd
 unfold nq gX
 rw [zd]
 rw [hlen,w64 (n:=(d.length:Int)+1-1) za za]
 refine Ok.bind (swap_at za za) (fun y⟨p1,p2⟩=>?_)
 have hy:y.length=d.length+1:=by have:=p1.length_eq;simpa using this
 have hn:((d.length:Int)+1-1).toNat=d.length:=by omega
 refine Ok.bind (down_heap za za (fun c h0 hc hp=>?_)) (fun z⟨⟨z1,z2⟩,z3⟩=>?_)
 ·rw [hn]at hc
  rw [p2,p2,hn,if_neg za,if_neg (by simpa using hp),if_neg za,if_neg so]
  exact hh c h0 za
 have hz:z.2.length=d.length+1:=by rw [z1.length_eq,hy]
 unfold pc
 rw [hz,w64 (n:=((d.length+1:Nat):Int)-1) za za]
 refine Ok.bind (P:=fun r:Item×List Item=>r.2.Perm d∧pD r.2 d.length) ?_ (fun r hr=>Ok.ret hr)
 refine Ok.bind (Ok.rK za za) (fun _ _=>Ok.bind (Ok.get za za) (fun w _=>?_))
 refine Ok.bind (Ok.sub za za za) (fun _ _=>Ok.ret ?_)
 simp only
 rw [show(((d.length+1:Nat):Int)-1).toNat=d.length by omega]
 rw [hn]at z2 z3
 have e:at_ z.2 d.length=x:=by
  rw [z2,p2,hn,if_pos rfl];rfl
 have hh':d.length<z.2.length:=by omega
 have e:z.2[d.length]=x:=by rw [<-mX (ze hh')];exact e
 have h3:z.2=z.2.take d.length++[x]:=by
  conv=>lhs;rw [<-List.take_append_drop d.length z.2]
  rw [List.drop_eq_getElem_cons hh',e,List.drop_of_length_le za]
 have h4:(z.2.take d.length++[x]).Perm (x::d):=by rw [<-h3];exact z1.trans p1
 have h5:(x::z.2.take d.length).Perm (x::d):=(List.perm_append_comm (l₁:=[x])).trans h4
 refine⟨(List.perm_cons x).1 h5,fun i h0 hi=>?_⟩
 rw [at_take za,at_take hi]
 exact z3 i h0 hi
theorem at_snoc{d:List Item}{x:Item}{i:Nat}(h:i<d.length):at_ (d++[x]) i=at_ d i:=by
 unfold at_
 rw [List.getD_eq_getElem?_getD,List.getD_eq_getElem?_getD,List.getElem?_append_left h]
theorem push_heap{q:ag}{a b:Int}{f:Bool}{l:aj}{x:Item}{d:List Item}(hd:d.length<=500)(hh:pD d d.length):Ok (kM x q a b f l d) (fun r=>r.Perm (x::d)∧pD r (d.length+1)):=by
 unfold kM mP gX
 refine Ok.bind (P:=fun r=>r=d++[x]) (Ok.bind (Ok.app (by simp only [List.length_cons,List.length_nil];omega)) (fun r hr=>Ok.ret hr)) (fun y hy=>?_)
 subst hy
 rw [zd]
 have hl:((d++[x]).length:Int)=d.length+1:=by simp
 have hln:(d++[x]).length=d.length+1:=by simp
 rw [hl,w64 za za]
 refine Ok.bind (up_heap za so (fun i h0 hi hne=>?_) (fun c h0 hc hc0 hcp=>?_)) (fun r hr=>Ok.ret ⟨hr.1.trans (List.perm_append_comm (l₂:=[x])),by rw [<-hln];exact hr.2⟩)
 ·have:i<d.length:=by omega
  rw [at_snoc za,at_snoc this]
  exact hh i h0 this
 ·omega
theorem push1_heap{q:ag}{a b:Int}{f:Bool}{l:aj}{x:Item}:Ok (me x q a b f l) (fun r=>r.Perm [x]∧pD r 1):=by
 unfold me nV gX
 refine Ok.bind (P:=fun r=>r=[x]) (Ok.bind (Ok.app sm) (fun r hr=>Ok.ret hr)) (fun y hy=>?_)
 subst hy
 rw [zd]
 rw [w64 sm sm]
 exact Ok.bind (up_ok sm sm) (fun r hr=>Ok.ret ⟨hr,fun i h0 hi=>za⟩)
end Go.Dw.Ek
set_option maxRecDepth 100000
set_option maxHeartbeats 4000000
namespace Go.Dw.Ek
open Go.Dw Go.Proofs
abbrev In(b:ai)(p:aa):Prop:=Sub b ⟨p,p⟩
theorem center_at{r b:ai}(hr:fu r)(hp:eD 20 r.aL)(h:Sub r b):Ok (fm b) (fun p=>In b p∧(pts b<2->∀x,In b x->x=p)):=by
 have hb:=h.ok hr hp
 obtain⟨⟨l1,l2,l3⟩,h1,h2,h3⟩:=l5 hb
 obtain⟨-,s1,s2,s3⟩:=id hb
 obtain⟨x,y,z⟩:=h
 unfold fm bv bD
 rw [dJ hb,zd,if_neg sm,zd,zd]
 simp only
 rw [lE za,zd,lE za,zd,lE za,zd]
 refine Ok.ret ⟨⟨zc,zc,zc⟩,fun hn p hin=>?_⟩
 have one:∀{a b c:Int},1<=a->1<=b->1<=c->a*b*c<2->a=1∧b=1∧c=1:=by
  intro a b c ha hb hc h
  have k1:1<=a*b:=by have:=Int.mul_le_mul ha hb za (by omega:(0:Int)<=a);omega
  have k2:a*b<=a*b*c:=by have:=Int.mul_le_mul_of_nonneg_left hc (by omega:0<=a*b);omega
  have k3:c<=a*b*c:=by have:=Int.mul_le_mul_of_nonneg_right k1 (by omega:0<=c);omega
  have k4:a<=a*b:=by have:=Int.mul_le_mul_of_nonneg_left hb (by omega:0<=a);omega
  have k5:b<=a*b:=by have:=Int.mul_le_mul_of_nonneg_right ha (by omega:0<=b);omega
  omega
 obtain⟨o1,o2,o3⟩:=one (a:=b.aF.fX-b.aL.fX+1) (b:=b.aF.fY-b.aL.fY+1) (c:=b.aF.fZ-b.aL.fZ+1) za za za hn
 obtain⟨p1,p2,p3⟩:=p
 obtain⟨i1,i2,i3⟩:=hin
 simp only at i1 i2 i3
 congr 1<;>omega
theorem split_cover{r b:ai}(hr:fu r)(hp:eD 20 r.aL)(h:Sub r b):Ok (fd b) (fun s=>(s.2.2=true->(Sub r s.1∧Sub r s.2.1∧pts s.1+pts s.2.1=pts b)∧∀p,In b p->In s.1 p∨In s.2.1 p)∧(s.2.2=false->pts b<2)):=by
 have h0:=yw hr hp h
 have hb:=h.ok hr hp
 obtain⟨⟨l1,l2,l3⟩,h1,h2,h3⟩:=l5 hb
 have hpt:=points_at hb
 obtain⟨-,s1,s2,s3⟩:=id hb
 obtain⟨x,y,z⟩:=h
 suffices hs:Ok (fd b) (fun s=>(s.2.2=true->∀p,In b p->In s.1 p∨In s.2.1 p)∧(s.2.2=false->pts b<2))by
  obtain⟨s,e,k⟩:=hs
  obtain⟨s',e',k'⟩:=h0
  rw [e]at e';cases e'
  exact⟨s,e,fun ht=>⟨k' ht,k.1 ht⟩,k.2⟩
 unfold fd bv bD
 rw [hpt,zd]
 refine Ok.gC (fun hlt=>Ok.ret ⟨sm,fun _=>hlt⟩) (fun hn=>?_)
 have hbig:=one_side (x:=b.aF.fX-b.aL.fX+1) (y:=b.aF.fY-b.aL.fY+1) (z:=b.aF.fZ-b.aL.fZ+1) za za za (by unfold pts at hn;omega)
 simp only [zd]
 rw [w64 (n:=b.aF.fX-b.aL.fX) za za,w64 (n:=b.aF.fY-b.aL.fY) za za,w64 (n:=b.aF.fZ-b.aL.fZ) za za]
 have cX:2<=b.aF.fX-b.aL.fX+1->Ok ((bR b.aL.fX b.aF.fX).bind fun x17=>some (ai.mk b.aL (aa.mk x17 b.aF.fY b.aF.fZ),ai.mk (aa.mk (IntKind.wrap .i64 (x17+(1:Int))) b.aL.fY b.aL.fZ) b.aF,true)) (fun s:ai×ai×Bool=>(s.2.2=true->∀p,In b p->In s.1 p∨In s.2.1 p)∧(s.2.2=false->pts b<2)):=fun h2=>by
  rw [lE za,zd,w64 za za]
  refine Ok.ret ⟨fun _ p⟨i1,i2,i3⟩=>?_,sm⟩
  simp only at i1 i2 i3
  rcases Int.lt_or_le (b.aL.fX+(b.aF.fX-b.aL.fX) / 2) p.fX with h|h
  ·right;exact⟨zc,zc,zc⟩
  ·left;exact⟨zc,zc,zc⟩
 have cY:2<=b.aF.fY-b.aL.fY+1->Ok ((bR b.aL.fY b.aF.fY).bind fun x10=>some (ai.mk b.aL (aa.mk b.aF.fX x10 b.aF.fZ),ai.mk (aa.mk b.aL.fX (IntKind.wrap .i64 (x10+(1:Int))) b.aL.fZ) b.aF,true)) (fun s:ai×ai×Bool=>(s.2.2=true->∀p,In b p->In s.1 p∨In s.2.1 p)∧(s.2.2=false->pts b<2)):=fun h2=>by
  rw [lE za,zd,w64 za za]
  refine Ok.ret ⟨fun _ p⟨i1,i2,i3⟩=>?_,sm⟩
  simp only at i1 i2 i3
  rcases Int.lt_or_le (b.aL.fY+(b.aF.fY-b.aL.fY) / 2) p.fY with h|h
  ·right;exact⟨zc,zc,zc⟩
  ·left;exact⟨zc,zc,zc⟩
 have cZ:2<=b.aF.fZ-b.aL.fZ+1->Ok ((bR b.aL.fZ b.aF.fZ).bind fun x7=>some (ai.mk b.aL (aa.mk b.aF.fX b.aF.fY x7),ai.mk (aa.mk b.aL.fX b.aL.fY (IntKind.wrap .i64 (x7+(1:Int)))) b.aF,true)) (fun s:ai×ai×Bool=>(s.2.2=true->∀p,In b p->In s.1 p∨In s.2.1 p)∧(s.2.2=false->pts b<2)):=fun h2=>by
  rw [lE za,zd,w64 za za]
  refine Ok.ret ⟨fun _ p⟨i1,i2,i3⟩=>?_,sm⟩
  simp only at i1 i2 i3
  rcases Int.lt_or_le (b.aL.fZ+(b.aF.fZ-b.aL.fZ) / 2) p.fZ with h|h
  ·right;exact⟨zc,zc,zc⟩
  ·left;exact⟨zc,zc,zc⟩
 exact Ok.gC (fun _=>Ok.gC (fun _=>cZ za) (fun _=>cY za)) (fun _=>Ok.gC (fun _=>cZ za) (fun _=>cX za))
structure Op(q:ag)(d:List Item):Prop where
 sub:lQ q.aO d
 bound:∀x∈d,x.ch=bnd q x.jx
 heap:pD d d.length
structure Bst(q:ag)(l:aj):Prop where
 inn:In q.aO l.aV
 val:gW q l.aV=some (l.aX,l.bh,0)
def Cover(q:ag)(f:Bool)(l:aj)(d:List Item):Prop:=∀p,In q.aO p->(∃x∈d,In x.jx p)∨(f=true∧l.bh<=mis q p)
theorem bst_mis{q:ag}(hq:PV q){l:aj}(h:Bst q l):l.bh=mis q l.aV:=by
 obtain⟨t,e, -⟩:=oJ hq h.inn
 rw [h.val]at e
 exact(Prod.mk.inj (Prod.mk.inj (Option.some.inj e)).2).1
theorem add_at{q:ag}(hq:PV q){b:ai}(hb:Sub q.aO b){n k:Int}{f:Bool}{l:aj}{d:List Item}(hd:d.length<=500)(ho:Op q d):Ok (iB b q n k f l d) (fun r=>r.1=0∧Op q r.2.2∧∃x:Item,x.jx=b∧r.2.2.Perm (x::d)):=by
 unfold iB iC
 rw [(bnd_at hq hb).1,zd]
 refine Ok.rN (fun _=>?_) (fun h=>(h rfl).elim)
 refine Ok.bind (push_heap hd ho.heap) (fun r⟨r1,r2⟩=>Ok.ret ⟨rfl,⟨fun x hx=>?_,fun x hx=>?_,?_⟩,_,rfl,r1⟩)
 ·rcases List.mem_cons.1 (r1.mem_iff.1 hx)with rfl|h
  ·exact hb
  ·exact ho.sub x h
 ·rcases List.mem_cons.1 (r1.mem_iff.1 hx)with rfl|h
  ·rfl
  ·exact ho.bound x h
 ·have:r.length=d.length+1:=by rw [r1.length_eq];rfl
  show pD r r.length
  rw [this];exact r2
theorem add1_at{q:ag}(hq:PV q){b:ai}(hb:Sub q.aO b){n k:Int}{f:Bool}{l:aj}:Ok (kV b q n k f l) (fun r=>r.1=0∧Op q r.2.1∧∃x:Item,x.jx=b∧r.2.1.Perm [x]):=by
 unfold kV jl
 rw [(bnd_at hq hb).1,zd]
 refine Ok.rN (fun _=>?_) (fun h=>(h rfl).elim)
 refine Ok.bind push1_heap (fun r⟨r1,r2⟩=>Ok.ret ⟨rfl,⟨fun x hx=>?_,fun x hx=>?_,?_⟩,_,rfl,r1⟩)
 ·rw [List.mem_singleton.1 (r1.mem_iff.1 hx)];exact hb
 ·rw [List.mem_singleton.1 (r1.mem_iff.1 hx)]
 ·have:r.length=1:=by rw [r1.length_eq];rfl
  show pD r r.length
  rw [this];exact r2
theorem look_at{q:ag}(hq:PV q){b:ai}(hb:Sub q.aO b){n k:Int}{f:Bool}{l:aj}{d:List Item}(hf:f=true->Bst q l):
  Ok (jK b q n k f l d) (fun r=>r.1=0∧r.2.1=true∧Bst q r.2.2∧(f=true->r.2.2.bh<=l.bh)∧(pts b<2->∀p,In b p->r.2.2.bh<=mis q p)):=by
 unfold jK
 refine Ok.bind (center_at hq.box hq.reg hb) (fun p⟨hp,hone⟩=>?_)
 obtain⟨t,e, -⟩:=oJ hq (hb.trans hp)
 have e1:∀(g:pts b<2)x,In b x->mis q p=mis q x:=fun g x hx=>by rw [hone g x hx]
 rw [e,zd]
 refine Ok.qQ (fun h=>(h rfl).elim) (fun _=>?_)
 have hg:Bst q (aj.mk p t (mis q p) 0 (ai.mk (aa.mk 0 0 0) (aa.mk 0 0 0))):=⟨hb.trans hp,e⟩
 refine Ok.uT (fun hff=>Ok.ret ⟨rfl,rfl,hg,fun h=>by rw [h]at hff;simp at hff,fun g x hx=>by rw [e1 g x hx];exact Int.le_refl _⟩) (fun hft=>?_)
 refine Ok.gC (fun hlt=>Ok.ret ⟨rfl,rfl,hg,fun _=>by simp only at hlt⊢;omega,fun g x hx=>by rw [e1 g x hx];exact Int.le_refl _⟩) (fun hge=>?_)
 have ek:l.bh<=mis q p:=by simp only at hge;omega
 refine Ok.rN (fun heq=>?_) (fun _=>Ok.ret ⟨rfl,hft,hf hft,fun _=>Int.le_refl _,fun g x hx=>by rw [<-e1 g x hx];exact ek⟩)
 exact Ok.bind (compare_ok _ _) (fun c _=>Ok.gC (fun _=>Ok.ret ⟨rfl,rfl,hg,fun _=>by simp only at heq⊢;omega,fun g x hx=>by rw [e1 g x hx];exact Int.le_refl _⟩) (fun _=>Ok.ret ⟨rfl,hft,hf hft,fun _=>Int.le_refl _,fun g x hx=>by rw [<-e1 g x hx];exact ek⟩))
theorem ended_at{t:Int}{q:ag}{n k:Int}{f:Bool}{l:aj}{d:List Item}(hs:∀x∈d,0<=x.ch∧x.ch<=1000000)(hl:f=true->0<=l.bh∧l.bh<=1000000):
  Ok (iV t q n k f l d) (fun r=>(r=false->d≠ [])∧(r=true->d=[]∨f=true∧l.bh-(at_ d 0).ch<=t)):=by
 unfold iV
 refine Ok.rN (fun h=>Ok.ret ⟨fun h=>by simp at h,fun _=>.inl (List.length_eq_zero_iff.1 za)⟩) (fun h=>?_)
 have hd:d≠ []:=fun e=>h (by rw [e];rfl)
 have:=List.length_pos_iff.2 hd
 refine Ok.yk (fun hf=>?_) (fun _=>Ok.ret ⟨fun _=>hd,fun h=>by simp at h⟩)
 refine Ok.bind (Ok.rK za za) (fun _ _=>Ok.bind (Ok.get za za) (fun x hx=>Ok.ret ⟨fun _=>hd,fun h=>.inr ⟨hf,?_⟩⟩))
 have h1:=hs x hx.1
 have h2:=hl hf
 have e:at_ d 0=x:=mX hx.2
 rw [w64 za za]at h
 rw [e];simpa using h
theorem bnd_range{q:ag}(hq:PV q){b:ai}(h:Sub q.aO b):0<=bnd q b∧bnd q b<=1000000:=by
 obtain⟨-,t,h1,h2, -⟩:=bnd_at hq h
 simp only at h1 h2
 have hl:=hq.len;have hc:=hq.cap
 have up:∀(ps:List ak)(zs:List aG),(∀a∈ps,a.bA=1)->bZ q.da ps zs t<=1000*ps.length:=by
  intro ps
  induction ps with
  |nil=>intro zs _;simp [bZ]
  |cons a ps ih=>
   intro zs hw
   cases zs with
   |nil=>simp [bZ];omega
   |cons z zs=>
    have k:=ih zs (fun x hx=>hw x (by simp [hx]))
    show ig q.da a.bA z t+bZ q.da ps zs t<=_
    have:ig q.da a.bA z t<=1000:=by unfold ig;rw [hw a sm,Int.one_mul];omega
    simp only [List.length_cons];omega
 have:=up q.ba (q.ba.map (zn q b)) (fun a ha=>(hq.ph a ha).1.weight)
 have:=nK (cap:=q.da) za (t:=t) q.ba (q.ba.map (zn q b)) (fun a ha=>by have:=(hq.ph a ha).1.weight;omega)
 omega
theorem mis_bnd{q:ag}(hq:PV q){p:aa}(h:In q.aO p):mis q p=bnd q ⟨p,p⟩:=by
 obtain⟨-,t,h1,h2,h3⟩:=bnd_at hq h
 obtain⟨t', -,k1,k2,k3⟩:=oJ hq h
 have:=h3 _ k1
 have:=k3 _ h1
 simp only at*
 omega
theorem mis_range{q:ag}(hq:PV q){p:aa}(h:In q.aO p):0<=mis q p∧mis q p<=1000000:=by
 rw [mis_bnd hq h];exact bnd_range hq h
theorem step_at{q:ag}(hq:PV q){n k:Int}{f:Bool}{l:aj}{d:List Item}(hd:d≠ [])(ho:Op q d)(hk:0<=k∧k+cnt d<=300)(hf:f=true->Bst q l)(hc:Cover q f l d):
  Ok (jL q n k f l d) (fun r=>r.1=0∧r.2.2.1=k+1∧r.2.2.2.1=true∧Bst q r.2.2.2.2.1∧Op q r.2.2.2.2.2∧Cover q true r.2.2.2.2.1 r.2.2.2.2.2∧k+1+cnt r.2.2.2.2.2<=k+cnt d):=by
 match d,hd with
 |x::d,_=>
  have hlen:=cnt_len hq ho.sub
  have hx:=ho.sub x sm
  have ho':lQ q.aO d:=fun y hy=>ho.sub y (List.mem_cons_of_mem _ hy)
  have hpx:=pts_in (hx.ok hq.box hq.reg)
  simp only [List.length_cons]at hlen
  unfold jL
  refine Ok.rN (fun h=>za) (fun _=>?_)
  refine Ok.bind (Ok.rK za sm) (fun _ _=>?_)
  rw [show eQ (x::d) (0:Int)=some x from rfl,zd]
  refine Ok.bind (pop_heap (by simp only [List.length_cons];omega) (by simpa using ho.heap)) (fun y⟨hy,hyh⟩=>?_)
  have hyl:y.2.length=d.length:=hy.length_eq
  have hyo:Op q y.2:=⟨ho'.perm hy,fun w hw=>ho.bound w (List.mem_cons_of_mem _ (hy.mem_iff.1 hw)),by rw [hyl];exact hyh⟩
  have hyc:cnt y.2=cnt d:=lr hy
  have hcx:cnt (x::d)=(2*pts x.jx-1)+cnt d:=rfl
  rw [w64 za za]
  refine Ok.bind (look_at hq hx hf) (fun z⟨z1,z2,z3,z4,z5⟩=>?_)
  refine Ok.qQ (fun h=>(h z1).elim) (fun _=>?_)
  have cov:∀p,In q.aO p->(∃w∈y.2,In w.jx p)∨z.2.2.bh<=mis q p∨In x.jx p:=fun p hp=>by
   rcases hc p hp with⟨w,hw,hwp⟩|⟨h1,h2⟩
   ·rcases List.mem_cons.1 hw with rfl|hw
    ·exact .inr (.inr hwp)
    ·exact .inl ⟨w,hy.mem_iff.2 hw,hwp⟩
   ·exact .inr (.inl (Int.le_trans (z4 h1) h2))
  refine Ok.bind (split_cover hq.box hq.reg hx) (fun s⟨hs,hsn⟩=>?_)
  refine Ok.uT (fun hsf=>Ok.ret ⟨rfl,rfl,z2,z3,hyo,fun p hp=>?_,zc⟩) (fun hst=>?_)
  ·rcases cov p hp with h|h|h
   ·exact .inl h
   ·exact .inr ⟨rfl,h⟩
   ·exact .inr ⟨rfl,z5 (hsn hsf) p h⟩
  obtain⟨⟨s1,s2,s3⟩,s4⟩:=hs hst
  refine Ok.bind (add_at hq s1 za hyo) (fun u⟨u1,uo,a,ua,up⟩=>?_)
  refine Ok.qQ (fun h=>(h u1).elim) (fun _=>?_)
  have hul:u.2.2.length=d.length+1:=by rw [up.length_eq];simp [hyl]
  refine Ok.bind (add_at hq s2 za uo) (fun v⟨v1,vo,b,vb,vp⟩=>Ok.ret ⟨v1,rfl,z2,z3,vo,fun p hp=>?_,?_⟩)
  ·simp only
   rcases cov p hp with⟨w,hw,hwp⟩|h|h
   ·exact .inl ⟨w,vp.mem_iff.2 (List.mem_cons_of_mem _ (up.mem_iff.2 (List.mem_cons_of_mem _ hw))),hwp⟩
   ·exact .inr ⟨trivial,h⟩
   ·rcases s4 p h with h|h
    ·exact .inl ⟨a,vp.mem_iff.2 (List.mem_cons_of_mem _ (up.mem_iff.2 sm)),by rw [ua];exact h⟩
    ·exact .inl ⟨b,vp.mem_iff.2 sm,by rw [vb];exact h⟩
  ·simp only
   rw [lr vp,hcx]
   simp only [cnt]
   rw [lr up]
   simp only [cnt]
   rw [ua,vb];omega
structure Fin(q:ag)(t:Int)(l:aj)(d:List Item):Prop where
 best:Bst q l
 opens:Op q d
 len:d.length<=300
 cover:Cover q true l d
 near:d=[]∨l.bh-(at_ d 0).ch<=t
theorem run_at{q:ag}(hq:PV q){t:Int}(ht:0<=t):Ok (ip q t) (fun r=>r.2=0∧∃s,r.1=some s∧Fin q t s.bT s.kg):=by
 have hpr:=pts_in hq.box
 unfold ip
 rw [mV hq,zd,if_neg sm,if_neg so]
 refine Ok.bind (add1_at hq (Sub.refl hq.box)) (fun x⟨x1,xo,a,xa,xp⟩=>?_)
 refine Ok.qQ (fun h=>(h x1).elim) (fun _=>?_)
 have hxc:cnt x.2.1=2*pts q.aO-1:=by rw [lr xp];simp only [cnt];rw [xa];omega
 refine Ok.bind (P:=fun o=>∃y,o= .inl y∧Fin q t y.2.2.2.2 y.1) (Ok.loop (fun s:Int×Int×Bool×aj×List Item=>(0<=s.2.1∧s.2.1+cnt s.2.2.2.2<=300)∧Op q s.2.2.2.2∧(s.2.2.1=true->Bst q s.2.2.2.1)∧(s.2.2.2.2=[]->s.2.2.1=true)∧Cover q s.2.2.1 s.2.2.2.1 s.2.2.2.2) (fun s=>(300-s.2.1).toNat) ?_ ⟨⟨sm,zc⟩,xo,sm,fun h=>?_,fun p hp=>.inl ⟨a,xp.mem_iff.2 sm,by rw [xa];exact hp⟩⟩) (fun o⟨y,ho,h1⟩=>by subst ho;exact Ok.ret ⟨rfl,_,rfl,h1⟩)
 ·rintro⟨s6,s7,s8,s9,s10⟩ ⟨⟨i0,i1⟩,i2,i3,i4,i5⟩
  simp only at i0 i1 i2 i3 i4 i5
  have hl:=cnt_len hq i2.sub
  unfold ko
  dsimp only
  refine Ok.bind (ended_at (fun x hx=>by rw [i2.bound x hx];exact bnd_range hq (i2.sub x hx)) (fun hf=>by rw [bst_mis hq (i3 hf)];exact mis_range hq (i3 hf).inn)) (fun e he=>?_)
  refine Ok.uT (fun hef=>?_) (fun het=>Ok.st ⟨_,rfl,?_⟩)
  ·have hne:=he.1 hef
   have:=List.length_pos_iff.2 hne
   refine Ok.bind (step_at hq hne i2 ⟨i0,i1⟩ i3 i5) (fun r⟨r1,r2,r3,r4,r5,r6,r7⟩=>?_)
   refine Ok.qQ (fun h=>(h r1).elim) (fun _=>?_)
   exact Ok.nx ⟨⟨zc,zc⟩,r5,fun _=>r4,fun _=>r3,by simp only;rw [r3];exact r6⟩ zc
  ·have hft:s8=true:=by
    rcases he.2 het with h|h
    ·exact i4 h
    ·exact h.1
   subst hft
   refine⟨i3 rfl,i2,zc,i5,?_⟩
   rcases he.2 het with h|h
   ·exact .inl h
   ·exact .inr h.2
 ·simp only at h
  rw [h]at hxc
  simp only [cnt]at hxc;omega
structure Least(q:ag)(t:Int)(l:aj):Prop where
 inn:In q.aO l.aV
 val:gW q l.aV=some (l.aX,l.bh,0)
 lower:∀p,In q.aO p->l.d5<=mis q p
 near:∀p,In q.aO p->l.bh-t<=mis q p
theorem locate_least{q:ag}(hq:PV q){t:Int}(ht:0<=t):Ok (db q t) (fun r=>r.2=0∧Least q t r.1):=by
 unfold db
 refine Ok.bind (run_at hq ht) (fun x⟨x1,s,xs,⟨⟨g1,g2⟩,ho,hs,hc,hn⟩⟩=>?_)
 rw [xs]
 show Ok (if(x.2 != (0:Int))=true then _ else _) _
 refine Ok.qQ (fun h=>(h x1).elim) (fun _=>?_)
 refine Ok.bind (P:=fun o:Int×ai=>o.1<=s.bT.bh∧∀x∈s.kg,o.1<=x.ch) (Ok.loop (fun u:Int×Int×ai=>(0<=u.1∧u.1<=s.kg.length)∧Sub q.aO u.2.2∧u.2.1<=s.bT.bh∧∀(i:Nat)x,s.kg[i]? =some x->i<u.1.toNat->u.2.1<=x.ch) (fun u=>((s.kg.length:Int)-u.1).toNat) ?_ ⟨⟨sm,sm⟩,g1,Int.le_refl _,fun i x _ hi=>by simp at hi⟩) (fun o⟨o1,o2⟩=>Ok.ret ⟨rfl,g1,g2,fun p hp=>?_,fun p hp=>?_⟩)
 ·rintro⟨u1,u2,u3⟩ ⟨⟨i0,i1⟩,i2,i3,i4⟩
  simp only at i0 i1 i2 i3 i4
  unfold kl
  refine Ok.gC (fun hlt=>?_) (fun _=>Ok.st ⟨i3,fun x hx=>?_⟩)
  rotate_left
  ·obtain⟨i,hi,rfl⟩:=List.getElem_of_mem hx
   exact i4 i _ (ze hi) za
  refine Ok.bind (Ok.get za za) (fun y hy=>?_)
  rw [w64 za za]
  have nxt:∀(i:Nat)x,s.kg[i]? =some x->i<(u1+1).toNat->(if y.ch<u2 then y.ch else u2)<=x.ch:=fun i x hx hi=>by
   rcases Nat.lt_or_ge i u1.toNat with h|h
   ·have:=i4 i x hx h
    split<;>omega
   ·have:i=u1.toNat:=by omega
    subst this
    rw [hy.2]at hx;cases hx
    split<;>omega
  have low:(if y.ch<u2 then y.ch else u2)<=s.bT.bh:=by split<;>omega
  refine Ok.gC (fun _=>?_) (fun _=>Ok.nx ⟨⟨zc,zc⟩,i2,low,nxt⟩ zc)
  exact Ok.bind (hull_ok hq.box hq.reg i2 (ho.sub y hy.1)) (fun z hz=>Ok.nx ⟨⟨zc,zc⟩,hz,low,nxt⟩ zc)
 ·simp only
  rcases hc p hp with⟨w,hw,hwp⟩|⟨-,h⟩
  ·have:=o2 w hw
   rw [ho.bound w hw]at this
   exact Int.le_trans this (bnd_le hq (ho.sub w hw) hwp)
  ·omega
 ·simp only
  rcases hc p hp with⟨w,hw,hwp⟩|⟨-,h⟩
  ·have k1:=bnd_le hq (ho.sub w hw) hwp
   rw [<-ho.bound w hw]at k1
   obtain⟨i,hi,rfl⟩:=List.getElem_of_mem hw
   have k2:=ho.heap.root i hi
   rw [mX (ze hi)]at k2
   rcases hn with hn|hn
   ·rw [hn]at hi;simp at hi
   ·have:(at_ s.kg 0).ch<=(s.kg[i]).ch:=by unfold leI at k2;omega
    omega
  ·omega
end Go.Dw.Ek
namespace Go.Dw
def Lnk(nx bk:List Int):List Nat->Prop
 |a::b::r=>(nx[a]? =some (b:Int)∧bk[b]? =some (a:Int))∧Lnk nx bk (b::r)
 |_=>True
theorem Lnk.congr{nx bk nx' bk':List Int}:∀{l:List Nat},Lnk nx bk l->(∀x∈l.dropLast,nx'[x]? =nx[x]?)->(∀x∈l.tail,bk'[x]? =bk[x]?)->Lnk nx' bk' l
 |a::b::r,⟨⟨h1,h2⟩,h3⟩,hn,hb=>by
  refine⟨⟨by rw [hn a (by simp [List.dropLast]),h1],by rw [hb b sm,h2]⟩,h3.congr (fun x hx=>hn x ?_) (fun x hx=>hb x ?_)⟩
  ·simp only [List.dropLast];exact List.mem_cons_of_mem _ hx
  ·simp only [List.tail_cons]at hx⊢;exact List.mem_cons_of_mem _ hx
 | [],_,_,_=>trivial
 | [_],_,_,_=>trivial
theorem pE{nx bk:List Int}{a:Nat}{m:List Nat}:∀{l:List Nat},Lnk nx bk (l++a::m)↔Lnk nx bk (l++[a])∧Lnk nx bk (a::m)
 | []=>by simp [Lnk]
 | [b]=>by simp [Lnk]
 |b::c::l=>by
  have:=pE (nx:=nx) (bk:=bk) (a:=a) (m:=m) (l:=c::l)
  simp only [List.cons_append,Lnk]at this⊢
  rw [this]
  simp only [and_assoc]
theorem has_last{l:List Nat}(h:l≠ []):∃m p,l=m++[p]:=⟨l.dropLast,l.getLast h,(List.dropLast_concat_getLast h).symm⟩
theorem Lnk.remove{nx bk:List Int}{e i:Nat}{A B:List Nat}(h:Lnk nx bk (e::(A++i::B)++[e]))(hd:(e::(A++i::B)).Nodup):
  ∃p q:Nat,bk[i]? =some (p:Int)∧nx[i]? =some (q:Int)∧p∈e::(A++B)∧q∈e::(A++B)∧Lnk (nx.set p (q:Int)) (bk.set q (p:Int)) (e::(A++B)++[e]):=by
 obtain⟨m,p,hp⟩:=has_last (l:=e::A) sm
 obtain⟨q,n,hq⟩:∃q n,B++[e]=q::n:=by
  cases B with
  |nil=>exact⟨e,[],rfl⟩
  |cons b B=>exact⟨b,B++[e],rfl⟩
 have e1:e::(A++i::B)++[e]=(m++[p])++i::q::n:=by rw [<-hp, <-hq];simp
 have h':Lnk nx bk (m++p::i::q::n):=by rw [e1]at h;simpa using h
 obtain⟨h1,h2⟩:=pE.1 h'
 obtain⟨⟨a1,a2⟩,⟨a3,a4⟩,h3⟩:=h2
 have hpm:p∈e::A:=by rw [hp];simp
 have hqm:q∈B++[e]:=by rw [hq];simp
 rw [List.nodup_cons,List.nodup_append]at hd
 obtain⟨d1,dA,dB,dAB⟩:=hd
 rw [List.nodup_cons]at dB
 have hmp:(m++[p]).Nodup:=by
  rw [<-hp,List.nodup_cons]
  exact⟨fun hh=>d1 (List.mem_append.2 (.inl hh)),dA⟩
 have hpn:p∉m:=fun hh=>by
  rw [List.nodup_append]at hmp
  exact hmp.2.2 p hh p sm rfl
 have e2:e::(A++B)++[e]=m++p::q::n:=by
  have:e::(A++B)++[e]=(e::A)++(B++[e]):=by simp
  rw [this,hp,hq];simp
 refine⟨p,q,a2,a3,?_,?_,?_⟩
 ·rcases List.mem_cons.1 hpm with h|h
  ·exact List.mem_cons.2 (.inl h)
  ·exact List.mem_cons.2 (.inr (List.mem_append.2 (.inl h)))
 ·rcases List.mem_append.1 hqm with h|h
  ·exact List.mem_cons.2 (.inr (List.mem_append.2 (.inr h)))
  ·exact List.mem_cons.2 (.inl (List.mem_singleton.1 h))
 rw [e2,pE]
 have hlp:p<nx.length:=(List.getElem?_eq_some_iff.1 a1).1
 have hlq:q<bk.length:=(List.getElem?_eq_some_iff.1 a4).1
 have memA:∀x,x∈(m++[p]).tail->x∈A:=by
  intro x hx;rw [<-hp]at hx;exact hx
 refine⟨h1.congr (fun x hx=>?_) (fun x hx=>?_),?_⟩
 ·rw [List.dropLast_concat]at hx
  exact List.getElem?_set_ne fun hh=>hpn (by rw [hh];exact hx)
 ·have hxA:=memA x hx
  refine List.getElem?_set_ne fun hh=>?_
  rw [hh]at hqm
  rcases List.mem_append.1 hqm with h|h
  ·exact dAB x hxA x (List.mem_cons_of_mem _ h) rfl
  ·rw [List.mem_singleton.1 h]at hxA
   exact d1 (List.mem_append.2 (.inl hxA))
 ·refine⟨⟨List.getElem?_set_self hlp,List.getElem?_set_self hlq⟩,h3.congr (fun x hx=>?_) (fun x hx=>?_)⟩
  ·rw [<-hq,List.dropLast_concat]at hx
   refine List.getElem?_set_ne fun hh=>?_
   rw [hh]at hpm
   rcases List.mem_cons.1 hpm with h|h
   ·rw [h]at hx;exact d1 (List.mem_append.2 (.inr (List.mem_cons_of_mem _ hx)))
   ·exact dAB x h x (List.mem_cons_of_mem _ hx) rfl
  ·simp only [List.tail_cons]at hx
   refine List.getElem?_set_ne fun hh=>?_
   rw [<-hh]at hx
   cases B with
   |nil=>
    simp only [List.nil_append,List.cons.injEq]at hq
    rw [<-hq.2]at hx;simp at hx
   |cons b B=>
    simp only [List.cons_append,List.cons.injEq]at hq
    obtain⟨rfl,rfl⟩:=hq
    rcases List.mem_append.1 hx with h|h
    ·exact(List.nodup_cons.1 dB.2).1 h
    ·rw [List.mem_singleton.1 h]at d1
     exact d1 (List.mem_append.2 (.inr sm))
end Go.Dw
namespace Go.Dw
section
variable {α:Type} [DecidableEq α]
def rounds(least:Nat)(win mem:List α->List α):Nat->List α->List (List α)×List α
 |0,_=>([],[])
 |_+1,[]=>([],[])
 |n+1,i::r=>
  if least<=(win (i::r)).length∧least<=(mem (win (i::r))).length then
   (mem (win (i::r))::(rounds least win mem n ((i::r).filter fun x=>decide (x∉mem (win (i::r))))).1,(rounds least win mem n ((i::r).filter fun x=>decide (x∉mem (win (i::r))))).2)
  else((rounds least win mem n r).1,i::(rounds least win mem n r).2)
theorem eW(least:Nat)(win mem:List α->List α)(n:Nat)(i:α)(r:List α):rounds least win mem (n+1) (i::r)=
  if least<=(win (i::r)).length∧least<=(mem (win (i::r))).length then
   (mem (win (i::r))::(rounds least win mem n ((i::r).filter fun x=>decide (x∉mem (win (i::r))))).1,(rounds least win mem n ((i::r).filter fun x=>decide (x∉mem (win (i::r))))).2)
  else((rounds least win mem n r).1,i::(rounds least win mem n r).2):=rfl
structure WinOk(win mem:List α->List α):Prop where
 sub:∀l,(win l).Sublist l
 mem:∀l,(mem l).Sublist l
theorem l6{l m:List α}{least:Nat}(h0:1<=least)(hm:m.Sublist l)(h:least<=m.length):(l.filter fun x=>decide (x∉m)).length<l.length:=by
 cases m with
 |nil=>simp at h;omega
 |cons a m=>
  have ha:a∈l:=hm.subset sm
  refine Nat.lt_of_le_of_ne (List.length_filter_le _ _) fun he=>?_
  have:=List.length_filter_eq_length_iff.1 he a ha
  simp at this
variable {least:Nat}{win mem:List α->List α}
theorem lz(h:WinOk win mem)(h0:1<=least):∀(n:Nat)(l:List α),l.length<=n->l.Nodup->((rounds least win mem n l).1.flatten++(rounds least win mem n l).2).Perm l
 |0,l,hl,_=>by simp [List.eq_nil_of_length_eq_zero (Nat.le_zero.1 hl),rounds]
 |n+1,[],_,_=>by simp [rounds]
 |n+1,i::r,hl,hd=>by
  rw [eW]
  split
  ·rename_i hc
   have hs:(mem (win (i::r))).Sublist (i::r):=(h.mem _).trans (h.sub _)
   have hlt:=l6 h0 hs hc.2
   have ih:=lz h h0 n ((i::r).filter fun x=>decide (x∉mem (win (i::r)))) za (hd.sublist List.filter_sublist)
   simp only [List.flatten_cons,List.append_assoc]
   refine(List.Perm.append_left _ ih).trans ?_
   have hmd:=hd.sublist hs
   generalize mem (win (i::r))=m at hs hmd⊢
   generalize i::r=l at hs hd⊢
   have hms:m.Perm (l.filter fun x=>decide (x∈m)):=by
    rw [List.perm_ext_iff_of_nodup hmd (hd.sublist List.filter_sublist)]
    intro x
    simp only [List.mem_filter,decide_eq_true_eq]
    exact⟨fun hx=>⟨hs.subset hx,hx⟩,fun hx=>hx.2⟩
   refine(List.Perm.append_right _ hms).trans ?_
   have:=List.filter_append_perm (fun x=>decide (x∈m)) l
   simpa using this
  ·have ih:=lz h h0 n r (by simpa using hl) (List.nodup_cons.1 hd).2
   refine List.perm_middle.trans ?_
   exact List.Perm.cons _ ih
theorem pR(n:Nat)(l:List α):∀g∈(rounds least win mem n l).1,least<=g.length:=by
 induction n generalizing l with
 |zero=>intro g hg;simp [rounds]at hg
 |succ n ih=>
  cases l with
  |nil=>intro g hg;simp [rounds]at hg
  |cons i r=>
   intro g hg
   unfold rounds at hg
   split at hg
   ·rename_i hc
    simp only [List.mem_cons]at hg
    rcases hg with rfl|hg
    ·exact hc.2
    ·exact ih _ g hg
   ·exact ih _ g hg
theorem ly(h:WinOk win mem)(h0:1<=least):∀(n m:Nat)(l:List α),l.length<=n->l.length<=m->rounds least win mem n l=rounds least win mem m l
 |0,m,l,hn,_=>by
  rw [List.eq_nil_of_length_eq_zero (Nat.le_zero.1 hn)]
  cases m<;>rfl
 |n+1,0,l,_,hm=>by
  rw [List.eq_nil_of_length_eq_zero (Nat.le_zero.1 hm)];rfl
 |n+1,m+1,[],_,_=>rfl
 |n+1,m+1,i::r,hn,hm=>by
  rw [eW,eW]
  split
  ·rename_i hc
   have hlt:=l6 h0 ((h.mem _).trans (h.sub (i::r))) hc.2
   rw [ly h h0 n m _ za za]
  ·rw [ly h h0 n m r (by simpa using hn) (by simpa using hm)]
theorem na(h:WinOk win mem)(h0:1<=least):∀(n:Nat)(C D:List α),(C++D).length<=n->(C++D).Nodup->(∀C',C'.Sublist C->C'≠ []->win (C'++D)=win C')->
  rounds least win mem n (C++D)=((rounds least win mem n C).1++(rounds least win mem n D).1,(rounds least win mem n C).2++(rounds least win mem n D).2)
 |0,C,D,hl,_,_=>by
  have:C=[]∧D=[]:=by simpa using hl
  rw [this.1,this.2];rfl
 |n+1,[],D,_,_,_=>by simp [rounds]
 |n+1,i::r,D,hl,hd,hw=>by
  have hwin:=hw (i::r) (List.Sublist.refl _) sm
  have hD:rounds least win mem (n+1) D=rounds least win mem n D:=ly h h0 _ _ _ (by simp at hl;omega) (by simp at hl;omega)
  rw [hD,show(i::r)++D=i::(r++D)from rfl,eW,eW]
  rw [show(i::r)++D=i::(r++D)from rfl]at hwin
  rw [hwin]
  split
  ·rename_i hc
   have hs:=(h.mem (win (i::r))).trans (h.sub (i::r))
   have hlt:=l6 h0 hs hc.2
   generalize hm:mem (win (i::r))=m at hs hlt hc⊢
   have hf:(i::(r++D)).filter (fun x=>decide (x∉m))=(i::r).filter (fun x=>decide (x∉m))++D:=by
    rw [<-List.cons_append,List.filter_append]
    congr 1
    refine List.filter_eq_self.2 fun x hx=>?_
    simp only [decide_eq_true_eq]
    intro hxm
    have:=(List.nodup_append.1 hd).2.2 x (hs.subset hxm) x hx
    exact this rfl
   rw [hf]
   have hsub:((i::r).filter (fun x=>decide (x∉m))++D).Sublist ((i::r)++D):=List.Sublist.append_right List.filter_sublist _
   have ih:=na h h0 n ((i::r).filter fun x=>decide (x∉m)) D (by rw [List.length_append]at hl⊢;omega) (hd.sublist hsub) (fun C' h1 h2=>hw C' (h1.trans List.filter_sublist) h2)
   rw [ih]
   simp
  ·have ih:=na h h0 n r D (by simpa using hl) (by simp only [List.cons_append,List.nodup_cons]at hd;exact hd.2) (fun C' h1 h2=>hw C' (h1.trans (List.sublist_cons_self _ _)) h2)
   rw [ih]
   simp
theorem pS{β:Type} [DecidableEq β] {win' mem':List β->List β}{f:α->β}(S:List α)(hf:∀x∈S,∀y∈S,f x=f y->x=y)(h:WinOk win mem):
  ∀(n:Nat)(l:List α),l.Sublist S->(∀l',l'.Sublist S->win' (l'.map f)=(win l').map f∧mem' ((win l').map f)=(mem (win l')).map f)->
   rounds least win' mem' n (l.map f)=((rounds least win mem n l).1.map (List.map f),(rounds least win mem n l).2.map f)
 |0,l,_,_=>rfl
 |n+1,[],_,_=>rfl
 |n+1,i::r,hl,hw=>by
  obtain⟨w1,w2⟩:=hw (i::r) hl
  rw [List.map_cons]at w1⊢
  rw [eW,eW,w1,w2]
  simp only [List.length_map]
  have hs:=(h.mem (win (i::r))).trans (h.sub (i::r))
  split
  ·generalize mem (win (i::r))=m at hs⊢
   have hfil:(f i::r.map f).filter (fun x=>decide (x∉m.map f))=((i::r).filter fun x=>decide (x∉m)).map f:=by
    rw [<-List.map_cons,List.filter_map]
    congr 1
    refine List.filter_congr fun x hx=>?_
    simp only [Function.comp,List.mem_map,decide_eq_decide]
    constructor
    ·intro hn hxm;exact hn ⟨x,hxm,rfl⟩
    ·rintro hn ⟨y,hy,hyx⟩
     have:=hf y (hl.subset (hs.subset hy)) x (hl.subset hx) hyx
     exact hn (this▸hy)
   rw [hfil]
   have ih:=pS S hf h n ((i::r).filter fun x=>decide (x∉m)) (List.filter_sublist.trans hl) hw
   rw [ih]
   simp
  ·have ih:=pS S hf h n r ((List.sublist_cons_self _ _).trans hl) hw
   rw [ih]
   simp
end
end Go.Dw
set_option maxRecDepth 100000
set_option maxHeartbeats 4000000
namespace Go.Dw.Ek
open Go.Dw Go.Proofs
abbrev Ph:=ak
abbrev As:=aJ
theorem flat_loop{α β ω:Type}{l:List α}{f:α->List β}{g:List β->ω}{body:(Int×List β)->Option (fK (Int×List β) ω)}(hf:∀x∈l,(f x).length<=1)
  (h1:∀(i:Nat)(hi:i<l.length)(acc:List β),acc.length<=i->body ((i:Int),acc)=some (.next (((i+1:Nat):Int),acc++f l[i])))
  (h2:∀acc,acc.length<=l.length->body ((l.length:Int),acc)=some (.stop (g acc))):dS body ((0:Int),[])=some (g (l.flatMap f)):=by
 have key:∀(k i:Nat)(acc:List β),i+k=l.length->acc.length<=i->dS body ((i:Int),acc)=some (g (acc++(l.drop i).flatMap f)):=by
  intro k
  induction k with
  |zero=>
   intro i acc hi ha
   obtain rfl:i=l.length:=by omega
   rw [gD (h2 acc ha)]
   simp
  |succ k ih=>
   intro i acc hi ha
   have hlt:i<l.length:=by omega
   rw [kN (h1 i hlt acc ha),ih (i+1) _ za (by have:=hf _ (List.getElem_mem hlt);rw [List.length_append];omega),List.drop_eq_getElem_cons hlt,List.flatMap_cons,List.append_assoc]
 have:=key l.length 0 [] za sm
 simpa using this
theorem oH{α β ω:Type}{l:List α}{f:α->β}{g:List β->ω}{body:(Int×List β)->Option (fK (Int×List β) ω)}
  (h1:∀(i:Nat)(hi:i<l.length)(acc:List β),acc.length<=i->body ((i:Int),acc)=some (.next (((i+1:Nat):Int),acc++[f l[i]])))
  (h2:∀acc,acc.length<=l.length->body ((l.length:Int),acc)=some (.stop (g acc))):dS body ((0:Int),[])=some (g (l.map f)):=by
 rw [flat_loop (f:=fun x=>[f x]) (fun _ _=>sm) h1 h2]
 rw [<-List.map_eq_flatMap]
theorem or3(a b c:Int):cv [a,b,c]=some (if a≠0 then a else if b≠0 then b else c):=by
 unfold cv
 have:=Sd.or_go (l:=[a,b,c]) (n:=0) (r:=[a,b,c]) sm sm rfl
 rw [show((0:Int))=((0:Nat):Int)from rfl,this]
 by_cases ha:a=0<;>by_cases hb:b=0<;>by_cases hc:c=0<;>simp [List.find?,ha,hb,hc]
def cmpG(a b:aa):Int:=if qF a.fX b.fX≠0 then qF a.fX b.fX else if qF a.fY b.fY≠0 then qF a.fY b.fY else qF a.fZ b.fZ
theorem cmpG_eq(a b:aa):dQ a b=some (cmpG a b):=by
 unfold dQ
 simp only [Sd.jY,zd,or3]
 rfl
theorem cmpG_tot:Tot cmpG:=(qU.map fun x:aa=>x.fX).or ((qU.map fun x:aa=>x.fY).or (qU.map fun x:aa=>x.fZ))
def cmpF(a b:Ph):Int:=if qF a.aK b.aK≠0 then qF a.aK b.aK else if qF a.bf b.bf≠0 then qF a.bf b.bf else if cmpG a.aN b.aN≠0 then cmpG a.aN b.aN else qF a.bA b.bA
theorem cmpF_eq(a b:Ph):ie a b=some (cmpF a b):=by
 unfold ie
 simp only [Sd.jY,cmpG_eq,zd,Sd.or4]
 rfl
theorem cmpF_tot:Tot cmpF:=(qU.map fun x:Ph=>x.aK).or ((qU.map fun x:Ph=>x.bf).or ((cmpG_tot.map fun x:Ph=>x.aN).or (qU.map fun x:Ph=>x.bA)))
theorem cmpF_early{a b:Ph}(h:cmpF a b<=0):a.aK<=b.aK:=by
 unfold cmpF at h
 split at h
 ·unfold qF at h;repeat' split at h<;>omega
 ·rename_i h0
  have:qF a.aK b.aK=0:=by omega
  rw [wW]at this;omega
def zPh:Ph:=⟨⟨0,0,0⟩,0,0,0⟩
def oo(F:List Ph)(i:Int):Ph:=F.getD i.toNat zPh
theorem qn{F:List Ph}{i:Int}(h0:0<=i)(h1:i<F.length):eQ F i=some (oo F i):=by
 rw [gZ (i:=i.toNat) za za]
 unfold oo
 rw [List.getD_eq_getElem?_getD,ze za];rfl
theorem phAt_mem{F:List Ph}{i:Int}(h0:0<=i)(h1:i<F.length):oo F i∈F:=by
 unfold oo
 rw [List.getD_eq_getElem?_getD,ze za]
 exact List.getElem_mem _
theorem ins_order{F:List Ph}{l:List Int}(hl:∀i∈l,0<=i∧i<F.length)(hn:l.length<=1000):cj 0 (l.length:Int) l F=some (bF (fun i k=>decide (cmpF (oo F i) (oo F k)<0)) l):=by
 refine Eq.trans (b:=insG (fun i k=>fw i k F) (fun c=>decide (c<0)) 0 (l.length:Int) l) rfl (insG_at (S:=fun i=>0<=i∧i<(F.length:Int)) (fun i k hi hk=>⟨cmpF (oo F i) (oo F k),?_,rfl⟩) hl hn)
 unfold fw
 rw [qn hi.1 hi.2,zd,qn hk.1 hk.2,zd,cmpF_eq];rfl
theorem stable_order{F:List Ph}{l:List Int}(hl:∀i∈l,0<=i∧i<F.length)(hn:l.length<=19):cU l F=some (bF (fun i k=>decide (cmpF (oo F i) (oo F k)<0)) l):=by
 unfold cU ep
 rw [gD (o:=((0:Int),l)) (by unfold fI;dsimp only;rw [if_neg so]),zd]
 dsimp only
 rw [ins_order hl za,zd,gD (o:=bF (fun i k=>decide (cmpF (oo F i) (oo F k)<0)) l) (by unfold fj;rw [if_neg so];rfl)]
 rfl
def ids(n:Nat):List Int:=(List.range n).map fun i:Nat=>(i:Int)
theorem ids_mem{n:Nat}{i:Int}:i∈ids n↔0<=i∧i<n:=by
 unfold ids
 rw [List.mem_map]
 constructor
 ·rintro⟨k,hk,rfl⟩
  have:=List.mem_range.1 hk
  omega
 ·intro h
  exact⟨i.toNat,List.mem_range.2 za,za⟩
theorem ids_succ(n:Nat):ids (n+1)=ids n++[(n:Int)]:=by unfold ids;rw [List.range_succ,List.map_append];rfl
theorem ids_len(n:Nat):(ids n).length=n:=by unfold ids;simp
theorem ids_asc(n:Nat):(ids n).Pairwise (· < ·):=by
 unfold ids
 rw [List.pairwise_map]
 exact List.pairwise_lt_range.imp fun h=>by omega
structure nf(F:List Ph)(o:List Int):Prop where
 perm:o.Perm (ids F.length)
 lex:o.Pairwise (Lex (fun i k=>cmpF (oo F i) (oo F k)) (· < ·))
theorem order_at{F:List Ph}(hn:F.length<=19):∃o,gK F=some o∧nf F o:=by
 refine⟨_,?_,bz _ _,sortI_lex (cmpF_tot.map (oo F)) (ids_asc F.length)⟩
 refine Ok.eq ?_
 unfold gK
 refine Ok.bind (Ok.mk za za za) (fun x hx=>?_)
 subst hx
 refine Ok.bind (P:=fun o=>o=ids F.length) (Ok.loop (fun s:Int×List Int=>∃i:Nat,i<=F.length∧s=((i:Int),ids i++List.replicate (F.length-i) 0)) (fun s=>((F.length:Int)-s.1).toNat) ?_ ⟨0,Nat.zero_le _,by simp [ids]⟩) (fun o ho=>?_)
 ·rintro s ⟨i,hi,rfl⟩
  unfold lR
  dsimp only
  refine Ok.gC (fun hlt=>?_) (fun hge=>Ok.st ?_)
  rotate_left
  ·obtain rfl:i=F.length:=by simp at hge;omega
   simp
  simp at hlt
  have e:List.replicate (F.length-i) (0:Int)=0::List.replicate (F.length-(i+1)) 0:=by
   rw [show F.length-i=(F.length-(i+1))+1 by omega];rfl
  rw [e,qA za (by simp [ids_len];omega),zd,set1 _ _ _ _ (by rw [ids_len]),zd,w64 za za]
  refine Ok.nx ⟨i+1,za,?_⟩ zc
  rw [ids_succ];simp
 ·subst ho
  rw [stable_order (fun i hi=>by have:=ids_mem.1 hi;omega) (by rw [ids_len];omega)]
  exact Ok.ret rfl
theorem fx{nx bk:List Int}{n:Nat}(h:nx.length=n+1)(hn:n<=1000):iK ⟨nx,bk⟩=some (n:Int):=by
 unfold iK
 rw [w64 zc zc]
 simp [h]
theorem Lnk_range{nx bk:List Int}:∀(k m:Nat),(∀j,m<=j->j<m+k->nx[j]? =some ((j+1:Nat):Int)∧bk[j+1]? =some (j:Int))->Lnk nx bk (List.range' m k++[m+k])
 |0,m,_=>trivial
 |k+1,m,h=>by
  have ih:=Lnk_range k (m+1) (fun j h1 h2=>h j za za)
  have h0:=h m (Nat.le_refl _) za
  rw [show m+(k+1)=m+1+k by omega]
  cases k with
  |zero=>exact⟨h0,trivial⟩
  |succ k=>
   rw [List.range'_succ,List.range'_succ]at*
   exact⟨h0,ih⟩
theorem newChain_at{n:Nat}(hn:n<=1000):Ok (gt (n:Int)) (fun r=>r.np.length=n+1∧r.fback.length=n+1∧Lnk r.np r.fback (n::List.range n++[n])):=by
 unfold gt
 rw [w64 za za]
 refine Ok.bind (Ok.mk za za za) (fun x hx=>Ok.bind (Ok.mk za za za) (fun y hy=>?_))
 subst hx hy
 refine Ok.bind (P:=fun o:List Int×List Int=>o.1.length=n+1∧o.2.length=n+1∧∀j,j<=n->o.1[j]? =some (((j+1)%(n+1):Nat):Int)∧o.2[(j+1)%(n+1)]? =some (j:Int))
  (Ok.loop (fun s:Int×List Int×List Int=>∃i:Nat,s.1=(i:Int)∧i<=n+1∧s.2.1.length=n+1∧s.2.2.length=n+1∧∀j,j<i->s.2.1[j]? =some (((j+1)%(n+1):Nat):Int)∧s.2.2[(j+1)%(n+1)]? =some (j:Int)) (fun s=>((n:Int)+1-s.1).toNat) ?_ ⟨0,rfl,za,sm,sm,fun j hj=>za⟩) (fun o ho=>?_)
 ·rintro⟨s1,s2,s3⟩ ⟨i,i0,i1,i2,i3,i4⟩
  simp only at i0 i2 i3 i4
  subst i0
  unfold jU
  dsimp only
  rw [w64 (n:=(n:Int)+1) za za]
  refine Ok.gC (fun hlt=>?_) (fun hge=>Ok.st ?_)
  rotate_left
  ·obtain rfl:i=n+1:=by omega
   exact⟨i2,i3,fun j hj=>i4 j za⟩
  rw [w64 (n:=(i:Int)+1) za za]
  have hr:vu ((i:Int)+1) ((n:Int)+1)=some (((i+1)%(n+1):Nat):Int):=by
   unfold vu
   rw [if_neg za,Int.tmod_eq_emod_of_nonneg za]
   rfl
  have hlt':(i+1)%(n+1)<n+1:=Nat.mod_lt _ za
  rw [hr,zd,zd,qA za za,zd,uF (i:=i) rfl za,zd,qA za za,zd,uF (i:=(i+1)%(n+1)) rfl za,zd]
  refine Ok.nx ⟨i+1,zc,za,by simpa using i2,by simpa using i3,fun j hj=>?_⟩ zc
  by_cases e:j=i
  ·subst e
   exact⟨List.getElem?_set_self za,List.getElem?_set_self za⟩
  ·have hne:(i+1)%(n+1)≠(j+1)%(n+1):=by
    rw [Nat.mod_eq_of_lt (a:=j+1) za]
    by_cases h:i=n
    ·subst h;simp
    ·rw [Nat.mod_eq_of_lt za];omega
   exact⟨by rw [List.getElem?_set_ne za];exact(i4 j za).1,by rw [List.getElem?_set_ne hne];exact(i4 j za).2⟩
 ·refine Ok.ret ⟨ho.1,ho.2.1,?_⟩
  have h1:Lnk o.1 o.2 (List.range' 0 n++[0+n]):=Lnk_range n 0 fun j _ hj=>by
   have:=ho.2.2 j za
   rw [Nat.mod_eq_of_lt za]at this
   exact this
  have h0:=ho.2.2 n (Nat.le_refl _)
  rw [Nat.mod_self]at h0
  rw [<-List.range_eq_range',Nat.zero_add]at h1
  cases n with
  |zero=>exact⟨h0,trivial⟩
  |succ n=>
   rw [List.range_eq_range',List.range'_succ]at h1⊢
   exact⟨h0,h1⟩
theorem filter_ne{A B:List Nat}{i:Nat}(h:(A++i::B).Nodup):(A++i::B).filter (fun x=>decide (x∉ [i]))=A++B:=by
 rw [List.nodup_append]at h
 obtain⟨_,h2,h3⟩:=h
 rw [List.nodup_cons]at h2
 rw [List.filter_append,List.filter_cons_of_neg sm,List.filter_eq_self.2,List.filter_eq_self.2]
 ·intro x hx
  simp only [List.mem_singleton,decide_eq_true_eq]
  rintro rfl
  exact h2.1 hx
 ·intro x hx
  simp only [List.mem_singleton,decide_eq_true_eq]
  rintro rfl
  exact h3 x hx x sm rfl
structure Ch(n:Nat)(P:List Nat)(nx bk:List Int):Prop where
 ln:nx.length=n+1
 lb:bk.length=n+1
 lnk:Lnk nx bk (n::P++[n])
 nd:(n::P).Nodup
 lt:∀x∈P,x<n
theorem remove_at{n:Nat}{P:List Nat}{nx bk:List Int}(h:Ch n P nx bk){i:Nat}(hi:i∈P):∃nx' bk',jV (i:Int) nx bk=some (nx',bk')∧Ch n (P.filter fun x=>decide (x∉ [i])) nx' bk':=by
 obtain⟨A,B,rfl⟩:=List.append_of_mem hi
 obtain⟨h1,h2,h3,h4,h5⟩:=h
 obtain⟨p,q,b1,b2,hp,hq,hl⟩:=Lnk.remove h3 h4
 have hbd:∀x∈n::(A++B),x<=n:=fun x hx=>by
  rcases List.mem_cons.1 hx with rfl|hx
  ·exact Nat.le_refl _
  ·refine Nat.le_of_lt (h5 x ?_)
   rcases List.mem_append.1 hx with hx|hx
   ·exact List.mem_append.2 (.inl hx)
   ·exact List.mem_append.2 (.inr (List.mem_cons_of_mem _ hx))
 have hp':=hbd p hp;have hq':=hbd q hq;have hi':=h5 i hi
 have nd:=(List.nodup_cons.1 h4).2
 refine⟨nx.set p q,bk.set q p,?_,?_⟩
 ·have gb:eQ bk (i:Int)=some (p:Int):=by
   rw [gZ (i:=i) rfl za]
   rw [ze za]at b1
   exact b1
  have gn:eQ nx (i:Int)=some (q:Int):=by
   rw [gZ (i:=i) rfl za]
   rw [ze za]at b2
   exact b2
  unfold jV
  rw [qA za za,zd,gb,zd,qA za za,zd,gn,zd,zd,zd,zd,zd,qA za za,zd,uF (i:=p) rfl za,zd,qA za za,zd,uF (i:=q) rfl za,zd]
 ·rw [filter_ne nd]
  refine⟨by simpa using h1,by simpa using h2,hl,?_,fun x hx=>?_⟩
  ·rw [List.nodup_cons]at h4⊢
   refine⟨fun hm=>h4.1 ?_,nd.sublist ((List.sublist_cons_self i B).append_left A)⟩
   rcases List.mem_append.1 hm with hm|hm
   ·exact List.mem_append.2 (.inl hm)
   ·exact List.mem_append.2 (.inr (List.mem_cons_of_mem _ hm))
  ·refine h5 x ?_
   rcases List.mem_append.1 hx with hx|hx
   ·exact List.mem_append.2 (.inl hx)
   ·exact List.mem_append.2 (.inr (List.mem_cons_of_mem _ hx))
end Go.Dw.Ek
set_option maxRecDepth 100000
set_option maxHeartbeats 4000000
namespace Go.Dw.Ek
open Go.Dw Go.Proofs
theorem flat_filter{α β:Type}(p:α->Bool)(f:α->β):∀l:List α,(l.flatMap fun x=>if p x=true then [f x]else [])=(l.filter p).map f
 | []=>rfl
 |x::l=>by
  rw [List.flatMap_cons,flat_filter p f l]
  by_cases h:p x=true
  ·rw [if_pos h,List.filter_cons_of_pos h];rfl
  ·rw [if_neg h,List.filter_cons_of_neg h];rfl
section
variable {α:Type}
def n9(k:α->Int)(span:Int):List α->List α
 | []=>[]
 |i::r=>((i::r).takeWhile fun j=>decide (k j-k i<=span)).take 16
theorem winK_sub(k:α->Int)(span:Int):∀l,(n9 k span l).Sublist l
 | []=>List.Sublist.refl _
 |_::_=>(List.take_sublist _ _).trans (List.takeWhile_sublist _)
theorem winK_cons(k:α->Int){span:Int}(h:0<=span)(i:α)(r:List α):n9 k span (i::r)=i::(r.takeWhile fun j=>decide (k j-k i<=span)).take 15:=by
 show((i::r).takeWhile fun j=>decide (k j-k i<=span)).take 16=_
 rw [List.takeWhile_cons_of_pos so]
 rfl
theorem winK_map{β:Type}{k:α->Int}{k':β->Int}{f:α->β}{span:Int}:∀l:List α,(∀x∈l,k' (f x)=k x)->n9 k' span (l.map f)=(n9 k span l).map f
 | [],_=>rfl
 |i::r,h=>by
  show(((i::r).map f).takeWhile fun j=>decide (k' j-k' (f i)<=span)).take 16=(((i::r).takeWhile fun j=>decide (k j-k i<=span)).take 16).map f
  rw [List.takeWhile_map, <-List.map_take,h i sm]
  congr 2
  have:∀l:List α,(∀x∈l,k' (f x)=k x)->l.takeWhile ((fun j=>decide (k' j-k i<=span))∘f)=l.takeWhile fun j=>decide (k j-k i<=span):=by
   intro l hl
   induction l with
   |nil=>rfl
   |cons x l ih=>
    simp only [List.takeWhile_cons,Function.comp,hl x sm]
    rw [ih fun y hy=>hl y (List.mem_cons_of_mem _ hy)]
  exact this _ h
end
def dW(o:List Int)(j:Nat):Int:=o.getD j 0
def plP(F:List Ph)(o:List Int)(j:Nat):Ph:=oo F (dW o j)
theorem ordAt_get{o:List Int}{j:Nat}(h:j<o.length):eQ o (j:Int)=some (dW o j):=by
 rw [gZ (i:=j) rfl h]
 unfold dW
 rw [List.getD_eq_getElem?_getD,ze h];rfl
theorem ordAt_mem{o:List Int}{j:Nat}(h:j<o.length):dW o j∈o:=by
 unfold dW
 rw [List.getD_eq_getElem?_getD,ze h]
 exact List.getElem_mem _
theorem nf.len{F:List Ph}{o:List Int}(h:nf F o):o.length=F.length:=by rw [h.perm.length_eq,ids_len]
theorem nf.range{F:List Ph}{o:List Int}(h:nf F o){j:Nat}(hj:j<F.length):0<=dW o j∧dW o j<F.length:=ids_mem.1 (h.perm.mem_iff.1 (ordAt_mem (by rw [h.len];exact hj)))
theorem nf.get{F:List Ph}{o:List Int}(h:nf F o){j:Nat}(hj:j<F.length):eQ o (j:Int)=some (dW o j)∧eQ F (dW o j)=some (plP F o j)∧plP F o j∈F:=
 ⟨ordAt_get (by rw [h.len];exact hj),qn (h.range hj).1 (h.range hj).2,phAt_mem (h.range hj).1 (h.range hj).2⟩
def mB(l:List Nat):List Int:=l.map fun j:Nat=>(j:Int)
theorem window_loop{n:Nat}{nx bk:List Int}{F:List Ph}{o:List Int}(ho:nf F o)(hn:F.length=n)(hn':n<=1000)(hl:nx.length=n+1)(hF:∀b∈F,0<=b.aK∧b.aK<=18014398509481984){a:As}{i:Nat}(hi:i<n):
  ∀(B:List Nat)(acc:List Int),Lnk nx bk (B++[n])->(∀x∈B,x<n)->acc.length<=16->dS (cr nx bk o F (i:Int) a) ((((B++[n]).headD 0:Nat):Int),acc)=
   some (acc++mB ((B.takeWhile fun j=>decide ((plP F o j).aK-(plP F o i).aK<=a.cB)).take (16-acc.length)))
 | [],acc,_,_,_=>by
  rw [gD (o:=acc)]
  ·simp [mB]
  ·unfold cr
   dsimp only
   rw [fx hl hn',zd,if_neg sm]
 |b::B,acc,hL,hB,ha=>by
  have hb:=hB b sm
  obtain⟨g1,g2,g3⟩:=ho.get (j:=b) za
  obtain⟨k1,k2,k3⟩:=ho.get (j:=i) za
  have f1:=hF _ g3;have f2:=hF _ k3
  have hw:IntKind.wrap .i64 ((plP F o b).aK-(plP F o i).aK)=(plP F o b).aK-(plP F o i).aK:=w64 za za
  have hL':nx[b]? =some (((B++[n]).headD 0:Nat):Int)∧Lnk nx bk (B++[n]):=by
   cases B with
   |nil=>exact⟨hL.1.1,hL.2⟩
   |cons c B=>exact⟨hL.1.1,hL.2⟩
  have hg:eQ nx (b:Int)=some (((B++[n]).headD 0:Nat):Int):=by
   rw [gZ (i:=b) rfl za]
   have:=hL'.1
   rw [ze za]at this
   exact this
  by_cases h16:acc.length<16
  ·by_cases hc:(plP F o b).aK-(plP F o i).aK<=a.cB
   ·have hbody:cr nx bk o F (i:Int) a (((b:Nat):Int),acc)=some (.next ((((B++[n]).headD 0:Nat):Int),acc++[(b:Int)])):=by
     unfold cr
     dsimp only
     rw [fx hl hn',zd,if_pos so,if_pos so,g1,zd,g2,zd,k1,zd,k2,zd,hw,if_pos (by simpa using hc),dz so,zd,qA za za,zd,hg,zd]
    show dS _ (((b:Nat):Int),acc)=_
    rw [kN hbody,window_loop ho hn hn' hl hF hi B _ hL'.2 (fun x hx=>hB x (List.mem_cons_of_mem _ hx)) so,List.takeWhile_cons_of_pos (by simpa using hc)]
    rw [show 16-acc.length=(16-(acc++[(b:Int)]).length)+1 by simp;omega,List.take_succ_cons]
    simp [mB]
   ·have hbody:cr nx bk o F (i:Int) a (((b:Nat):Int),acc)=some (.stop acc):=by
     unfold cr
     dsimp only
     rw [fx hl hn',zd,if_pos so,if_pos so,g1,zd,g2,zd,k1,zd,k2,zd,hw,if_neg (by simpa using hc)]
    show dS _ (((b:Nat):Int),acc)=_
    rw [gD hbody,List.takeWhile_cons_of_neg (by simpa using hc)]
    simp [mB]
  ·have hbody:cr nx bk o F (i:Int) a (((b:Nat):Int),acc)=some (.stop acc):=by
    unfold cr
    dsimp only
    rw [fx hl hn',zd,if_pos so,if_neg so]
   show dS _ (((b:Nat):Int),acc)=_
   rw [gD hbody,show 16-acc.length=0 by omega]
   simp [mB]
theorem Lnk_head{nx bk:List Int}{n:Nat}{P:List Nat}(h:Lnk nx bk (n::P++[n]))(hl:nx.length=n+1):eQ nx (n:Int)=some (((P++[n]).headD 0:Nat):Int)∧Lnk nx bk (P++[n]):=by
 have:nx[n]? =some (((P++[n]).headD 0:Nat):Int)∧Lnk nx bk (P++[n]):=by
  cases P with
  |nil=>exact⟨h.1.1,h.2⟩
  |cons c B=>exact⟨h.1.1,h.2⟩
 refine⟨?_,this.2⟩
 have h1:=this.1
 rw [gZ (i:=n) rfl za]
 rw [ze za]at h1
 exact h1
theorem window_at{n:Nat}{nx bk:List Int}{F:List Ph}{o:List Int}(ho:nf F o)(hn:F.length=n)(hn':n<=1000)(hF:∀b∈F,0<=b.aK∧b.aK<=18014398509481984){a:As}{i:Nat}{r:List Nat}(hc:Ch n (i::r) nx bk):
  la a F o nx bk=some (mB (n9 (fun j=>(plP F o j).aK) a.cB (i::r)),nx,bk):=by
 obtain⟨h1,h2⟩:=Lnk_head hc.lnk hc.ln
 unfold la
 rw [fx hc.ln hn',zd,qA za (by have:=hc.ln;omega),zd,h1,zd]
 have h3:=window_loop ho hn hn' hc.ln hF (a:=a) (i:=i) (hc.lt i sm) (i::r) [] h2 hc.lt sm
 have h4:((((i::r)++[n]).headD 0:Nat):Int)=(i:Int):=rfl
 rw [h4]at h3⊢
 rw [h3,zd]
 rfl
theorem residuals_at{q:ag}(hq:PV q){p:aa}(hp:Sub q.aO ⟨p,p⟩){t:Int}(ht: -5000<=t∧t<=18014398509481984):gf q p t=some (q.ba.map (fun b=>res (zn q ⟨p,p⟩ b) t),0):=by
 have hl:=hq.len
 have hz:∀z∈q.ba.map (zn q ⟨p,p⟩),eB z:=fun z hz=>by obtain⟨b,hb,rfl⟩:=List.mem_map.1 hz;exact(zn_at hq hp hb).2
 unfold gf
 rw [zones_at hq hp,zd,if_neg sm,if_neg so,if_neg so]
 dsimp only
 have hm:mkCO (0:Int) ((q.ba.map (zn q ⟨p,p⟩)).length:Int) (0:Int) 8=some []:=by
  unfold mkCO
  rw [if_pos ⟨za,za,so,so⟩];rfl
 rw [hm,zd,oH (l:=q.ba.map (zn q ⟨p,p⟩)) (f:=fun z=>res z t) (g:=id) (fun i hi acc ha=>?_) (fun acc ha=>?_),zd]
 ·simp [Function.comp]
 ·unfold iv
  dsimp only
  rw [if_pos (by simp at hi⊢;omega),gZ (i:=i) rfl hi,zd,res_at (hz _ (List.getElem_mem hi)) ht,zd,dz (by simp at hi⊢;omega),zd,w64 za (by simp at hi;omega)]
  rfl
 ·unfold iv
  dsimp only
  rw [if_neg sm];rfl
def oq(a:As)(ph:List Ph):ag:=⟨a.aO,a.bi,ph,a.da⟩
noncomputable def loc (a:As) (ph:List Ph):aj:=((db (oq a ph) a.bS).getD (⟨⟨0,0,0⟩,0,0,0,⟨⟨0,0,0⟩,⟨0,0,0⟩⟩⟩,0)).1
def PhOk(a:As)(F:List Ph):Prop:=∀b∈F,PhV b∧Reach a.bi (mY a.aO b.aN)
theorem prob_ok{s:ap}(hs:iH s){ph:List Ph}(hp:PhOk s.ah ph)(hl:1<=ph.length∧ph.length<=64):PV (oq s.ah ph):=⟨hs.box,hs.reg,hs.tab,hl,hs.cap,hp⟩
theorem loc_at{s:ap}(hs:iH s){ph:List Ph}(hp:PhOk s.ah ph)(hl:1<=ph.length∧ph.length<=64):
  db (oq s.ah ph) s.ah.bS=some (loc s.ah ph,0)∧Least (oq s.ah ph) s.ah.bS (loc s.ah ph)∧(-5000<=(loc s.ah ph).aX∧(loc s.ah ph).aX<=18014398509481984):=by
 have hq:=prob_ok hs hp hl
 obtain⟨⟨r1,r2⟩,e,h0,hL⟩:=locate_least hq hs.tol.1
 simp only at h0 hL
 subst h0
 have hloc:loc s.ah ph=r1:=by unfold loc;rw [e];rfl
 rw [hloc]
 refine⟨e,hL,?_⟩
 obtain⟨t,e1,hB⟩:=oJ hq hL.inn
 rw [hL.val]at e1
 simp only [Option.some.injEq,Prod.mk.injEq]at e1
 obtain⟨rfl, -⟩:=e1
 obtain⟨z,hz,hzt⟩:=mem_ends.1 hB.mem
 obtain⟨b,hb,rfl⟩:=List.mem_map.1 hz
 have:=(zn_at hq hL.inn hb).2
 obtain⟨z1,z2,z3⟩:=this
 simp only at hzt
 rcases hzt with h|h<;>omega
noncomputable def fits (a:As) (ph:List Ph) (b:Ph):Bool:=decide (res (zn (oq a ph) ⟨(loc a ph).aV,(loc a ph).aV⟩ b) (loc a ph).aX<=a.lC)
noncomputable def om {α:Type} (a:As) (ph:α->Ph) (w:List α):List α:=w.filter fun j=>fits a (w.map ph) (ph j)
theorem memK_map{α β:Type}{a:As}{ph:α->Ph}{ph':β->Ph}{f:α->β}{w:List α}(h:∀x∈w,ph' (f x)=ph x):om a ph' (w.map f)=(om a ph w).map f:=by
 have e:(w.map f).map ph'=w.map ph:=by
  rw [List.map_map]
  exact List.map_congr_left h
 unfold om
 rw [e,List.filter_map]
 congr 1
 refine List.filter_congr fun x hx=>?_
 simp only [Function.comp,h x hx]
theorem pY{α:Type}(a:As)(ph:α->Ph)(span:Int):WinOk (n9 (fun j=>(ph j).aK) span) (om a ph):=⟨fun l=>winK_sub _ _ l,fun _=>List.filter_sublist⟩
abbrev ci:Int->Int->Bool:=fun x y=>decide (qF x y<0)
theorem gO(l:List Nat):(mB l).length=l.length:=by simp [mB]
theorem nats_get{l:List Nat}{i:Nat}(h:i<l.length):eQ (mB l) (i:Int)=some ((l[i]:Nat):Int):=by
 rw [gZ (i:=i) rfl (by rw [gO];exact h)]
 simp [mB]
theorem qu{n:Nat}{F:List Ph}{o:List Int}(ho:nf F o)(hn:F.length=n):∀(M D P:List Nat)(nx bk acc:List Int),M.Nodup->(∀m∈M,m∈P)->Ch n P nx bk->(D++M).length<=1000->acc.length<=D.length->
  Ok (dS (cn (mB (D++M)) o) ((D.length:Int),nx,bk,acc)) (fun r=>Ch n (P.filter fun x=>decide (x∉M)) r.1 r.2.1∧r.2.2=acc++M.map (dW o))
 | [],D,P,nx,bk,acc,_,_,hc,_,_=>by
  rw [gD (o:=(nx,bk,acc))]
  ·refine Ok.ret ⟨?_,sm⟩
   rw [List.filter_eq_self.2 sm];exact hc
  ·unfold cn
   dsimp only
   rw [if_neg (by simp [gO])]
 |m::M,D,P,nx,bk,acc,hd,hm,hc,hl,ha=>by
  obtain⟨nx',bk',e,hc'⟩:=remove_at hc (hm m sm)
  have hmlt:=hc.lt m (hm m sm)
  obtain⟨g1,g2,g3⟩:=ho.get (j:=m) za
  have hl':D.length+(M.length+1)<=1000:=by simpa using hl
  have hD:D.length<(D++m::M).length:=by simp
  have hbody:cn (mB (D++m::M)) o ((D.length:Int),nx,bk,acc)=some (.next (((D++[m]).length:Int),nx',bk',acc++[dW o m])):=by
   unfold cn
   dsimp only
   rw [if_pos (by simp [gO];omega),qA za (by simp [gO];omega),zd,nats_get hD,zd]
   have:(D++m::M)[D.length]'hD=m:=by simp
   rw [this,e,zd,g1,zd,dz so,zd,w64 za za]
   simp
  rw [kN hbody]
  have hd':=List.nodup_cons.1 hd
  have ih := qu ho hn M (D ++ [m]) _ nx' bk' (acc ++ [dW o m]) hd'.2 (fun x hx => by
   refine List.mem_filter.2 ⟨hm x (List.mem_cons_of_mem _ hx),?_⟩
   simp only [List.mem_singleton,decide_eq_true_eq]
   rintro rfl
   exact hd'.1 hx) hc' so so
  have e2:D++[m]++M=D++m::M:=by simp
  rw [e2]at ih
  refine ih.mono fun r hr=>⟨?_,by rw [hr.2];simp⟩
  have e3:List.filter (fun x=>decide (x∉M)) (List.filter (fun x=>decide (x∉ [m])) P)=P.filter fun x=>decide (x∉m::M):=by
   rw [List.filter_filter]
   refine List.filter_congr fun x _=>?_
   by_cases h1:x=m<;>by_cases h2:x∈M<;>simp [h1,h2]
  rw [<-e3]
  exact hr.1
theorem drop_first{n:Nat}{i:Nat}{r:List Nat}(hd:(n::i::r).Nodup):(i::r).filter (fun x=>decide (x∉ [i]))=r:=by
 have:=filter_ne (A:=[]) (i:=i) (B:=r) (List.nodup_cons.1 hd).2
 simpa using this
noncomputable abbrev rnd (a:As) (F:List Ph) (o:List Int) (m:Nat) (P:List Nat):List (List Nat)×List Nat:=rounds a.cw.toNat (n9 (fun j=>(plP F o j).aK) a.cB) (om a (plP F o)) m P
theorem rounds_at{s:ap}(hs:iH s){n:Nat}{F:List Ph}{o:List Int}(hn:F.length=n)(hF:n<=19)(hph:PhOk s.ah F)(ho:nf F o):
  ∀(m:Nat)(P:List Nat)(nx bk:List Int)(G:List a7)(L:List Int),P.length<=m->Ch n P nx bk->P.length<=n->G.length<=n-P.length->L.length<=n-P.length->
   Ok (dS (bW s.ah F o) (G,L,nx,bk)) (fun r=>∃G',r= .inl (G++G',L++(rnd s.ah F o m P).2.map (dW o))∧G'.map (·.co)=(rnd s.ah F o m P).1.map fun g=>bF ci (g.map (dW o))):=by
 intro m
 induction m with
 |zero=>
  intro P nx bk G L hP hc _ _ _
  obtain rfl:=List.eq_nil_of_length_eq_zero (Nat.le_zero.1 hP)
  obtain⟨h1,h2⟩:=Lnk_head hc.lnk hc.ln
  rw [gD (o:= .inl (G,L))]
  ·exact Ok.ret ⟨[],by simp [rounds],rfl⟩
  ·unfold bW
   dsimp only
   have hh:((([]++[n]).headD 0:Nat):Int)=(n:Int):=rfl
   rw [fx hc.ln za,zd,qA za (by have:=hc.ln;omega),zd,h1,zd,zd,hh,if_neg sm]
 |succ m ih=>
  intro P nx bk G L hP hc hPn hG hL
  obtain⟨h1,h2⟩:=Lnk_head hc.lnk hc.ln
  match P,hP,hc,hPn,hG,hL,h1 with
  | [],hP,hc,hPn,hG,hL,h1=>
   rw [gD (o:= .inl (G,L))]
   ·exact Ok.ret ⟨[],by simp [rounds],rfl⟩
   ·unfold bW
    dsimp only
    have hh:((([]++[n]).headD 0:Nat):Int)=(n:Int):=rfl
    rw [fx hc.ln za,zd,qA za (by have:=hc.ln;omega),zd,h1,zd,zd,hh,if_neg sm]
  |i::r,hP,hc,hPn,hG,hL,h1=>
   have hlt:=hc.lt
   have hi:=hlt i sm
   have hh:((((i::r)++[n]).headD 0:Nat):Int)=(i:Int):=rfl
   have hwn:=window_at ho hn za (fun b hb=>⟨(hph b hb).1.early,by have:=(hph b hb).1.late;have:=(hph b hb).1.most;omega⟩) (a:=s.ah) hc
   have hsp:=hs.span.1
   have hwc:=winK_cons (fun j=>(plP F o j).aK) hsp i r
   have hsub:=winK_sub (fun j=>(plP F o j).aK) s.ah.cB (i::r)
   generalize hw:n9 (fun j=>(plP F o j).aK) s.ah.cB (i::r)=w at hwn hwc hsub
   have hwl:w.length<=(i::r).length:=hsub.length_le
   have hPn':r.length+1<=n:=by simpa using hPn
   have hwl':w.length<=r.length+1:=by simpa using hwl
   have hw0:1<=w.length:=by rw [hwc];simp
   have hle:=hs.least.1
   have k26:Ok (cm (mB w,nx,bk) o G L) (fun x=>∃nx' bk',x= .next (G,L++[dW o i],nx',bk')∧Ch n r nx' bk'):=by
    obtain⟨nx',bk',e,hc'⟩:=remove_at hc (i:=i) sm
    rw [drop_first hc.nd]at hc'
    unfold cm
    dsimp only
    have g0:eQ (mB w) (0:Int)=some (i:Int):=by rw [hwc];rfl
    rw [g0,zd,(ho.get (j:=i) za).1,zd,dz so,zd,zd,e,zd]
    exact Ok.ret ⟨nx',bk',rfl,hc'⟩
   have no:¬(s.ah.cw.toNat<=w.length∧s.ah.cw.toNat<=(om s.ah (plP F o) w).length)->∀x,bW s.ah F o (G,L,nx,bk)=some x->(∃nx' bk',x= .next (G,L++[dW o i],nx',bk')∧Ch n r nx' bk')->
     Ok (dS (bW s.ah F o) (G,L,nx,bk)) (fun r'=>∃G',r'= .inl (G++G',L++(rnd s.ah F o (m+1) (i::r)).2.map (dW o))∧G'.map (·.co)=(rnd s.ah F o (m+1) (i::r)).1.map fun g=>bF ci (g.map (dW o))):=by
    rintro hno x hx ⟨nx',bk',rfl,hc'⟩
    rw [kN hx]
    have:=ih r nx' bk' G (L++[dW o i]) (by simpa using hP) hc' za (by simp at hG;omega) (by simp at hL⊢;omega)
    refine this.mono fun y hy=>?_
    obtain⟨G',e1,e2⟩:=hy
    rw [rnd,eW,hw,if_neg hno]
    exact⟨G',by rw [e1];simp,e2⟩
   have hstart:bW s.ah F o (G,L,nx,bk)=(if(decide (((mB w).length:Int)>=s.ah.cw))=true then((dS (dm (mB w,nx,bk) o F G L) ((0:Int),([]:(List ak)))).bind fun o40=>(eu s.ah o40.1).bind fun x41=>(db x41 s.ah.bS).bind fun x42=>if(x42.2 != (0:Int))=true then(some (.stop (.inr (([]:(List a7)),([]:(List Int)),x42.2))))else((eu s.ah o40.1).bind fun x44=>(gf x44 x42.1.aV x42.1.aX).bind fun x45=>if(x45.2 != (0:Int))=true then(some (.stop (.inr (([]:(List a7)),([]:(List Int)),x45.2))))else((dS (dn (mB w,nx,bk) x45 s.ah) ((0:Int),([]:(List Int)))).bind fun o57=>if(decide ((o57.length:Int)>=s.ah.cw))=true then((dS (cn o57 o) ((0:Int),nx,bk,([]:(List Int)))).bind fun o75=>(sb o75.2.2).bind fun x76=>(nJ o40.2.1 [(a7.mk x76 x42.1.aV x42.1.aX)] 56).bind fun x77=>some (.next (x77,o40.2.2,o75.1,o75.2.1)))else(cm (mB w,nx,bk) o o40.2.1 o40.2.2))))else(cm (mB w,nx,bk) o G L)):=by
    conv=>lhs;unfold bW
    dsimp only
    rw [fx hc.ln za,zd,qA za (by have:=hc.ln;omega),zd,h1,zd,zd,hh,if_pos so,hwn,zd]
   by_cases hc1:s.ah.cw.toNat<=w.length
   ·rw [if_pos (by rw [gO];simp;omega)]at hstart
    have hwp:PhOk s.ah (w.map (plP F o)):=fun b hb=>by
     obtain⟨j,hj,rfl⟩:=List.mem_map.1 hb
     exact hph _ (ho.get (j:=j) (by have:=hlt j (hsub.subset hj);omega)).2.2
    have h39:dS (dm (mB w,nx,bk) o F G L) ((0:Int),([]:(List ak)))=some (w.map (plP F o),G,L):=by
     refine oH (l:=w) (f:=plP F o) (g:=fun x=>(x,G,L)) (fun k hk acc ha=>?_) (fun acc ha=>?_)
     ·have hj:=hlt _ (hsub.subset (List.getElem_mem hk))
      obtain⟨g1,g2,g3⟩:=ho.get (j:=w[k]) za
      unfold dm
      dsimp only
      rw [if_pos (by rw [gO];simp;omega),nats_get hk,zd,g1,zd,g2,zd,dz so,zd,w64 za za]
      rfl
     ·unfold dm
      dsimp only
      rw [if_neg (by rw [gO];simp)]
    have hpl:1<=(w.map (plP F o)).length∧(w.map (plP F o)).length<=64:=by rw [List.length_map];omega
    obtain⟨e1,e2,e3⟩:=loc_at hs hwp hpl
    have e4:=residuals_at (prob_ok hs hwp hpl) e2.inn e3
    rw [h39,zd]at hstart
    dsimp only at hstart
    have hpr:eu s.ah (w.map (plP F o))=some (oq s.ah (w.map (plP F o))):=rfl
    rw [hpr,zd,e1,zd,if_neg sm,zd]at hstart
    dsimp only at hstart
    rw [e4,zd,if_neg sm]at hstart
    have h56:dS (dn (mB w,nx,bk) ((oq s.ah (w.map (plP F o))).ba.map (fun b=>res (zn (oq s.ah (w.map (plP F o))) ⟨(loc s.ah (w.map (plP F o))).aV,(loc s.ah (w.map (plP F o))).aV⟩ b) (loc s.ah (w.map (plP F o))).aX),0) s.ah) ((0:Int),([]:(List Int)))=some (mB (om s.ah (plP F o) w)):=by
     rw [flat_loop (l:=w) (f:=fun j=>if fits s.ah (w.map (plP F o)) (plP F o j)=true then [(j:Int)]else []) (g:=id) (fun x _=>by split<;>simp) (fun k hk acc ha=>?_) (fun acc ha=>?_)]
     ·congr 1
      exact flat_filter _ _ w
     ·unfold dn
      dsimp only
      have hres:eQ ((oq s.ah (w.map (plP F o))).ba.map (fun b=>res (zn (oq s.ah (w.map (plP F o))) ⟨(loc s.ah (w.map (plP F o))).aV,(loc s.ah (w.map (plP F o))).aV⟩ b) (loc s.ah (w.map (plP F o))).aX)) (k:Int)=some (res (zn (oq s.ah (w.map (plP F o))) ⟨(loc s.ah (w.map (plP F o))).aV,(loc s.ah (w.map (plP F o))).aV⟩ (plP F o w[k])) (loc s.ah (w.map (plP F o))).aX):=by
       rw [gZ (i:=k) rfl (by simp [oq];omega)]
       simp [oq]
      rw [if_pos (by rw [gO];simp;omega),nats_get hk,zd,hres,zd,w64 za za]
      by_cases hfit:fits s.ah (w.map (plP F o)) (plP F o w[k])=true
      ·rw [if_pos hfit]
       unfold fits at hfit
       rw [if_pos hfit,dz so,zd]
       rfl
      ·rw [if_neg hfit]
       unfold fits at hfit
       rw [if_neg hfit,List.append_nil]
       rfl
     ·unfold dn
      dsimp only
      rw [if_neg (by rw [gO];simp)];rfl
    rw [h56,zd]at hstart
    have hmsub:(om s.ah (plP F o) w).Sublist (i::r):=List.filter_sublist.trans hsub
    generalize hM:om s.ah (plP F o) w=M at hstart hmsub no
    have hMl:M.length<=r.length+1:=by simpa using hmsub.length_le
    by_cases hc2:s.ah.cw.toNat<=M.length
    ·rw [if_pos (by rw [gO];simp;omega)]at hstart
     have hnd:=(List.nodup_cons.1 hc.nd).2
     obtain⟨⟨nx',bk',acc⟩,t1,t2,t3⟩:=qu ho hn M [] (i::r) nx bk [] (hnd.sublist hmsub) (fun x hx=>hmsub.subset hx) hc so sm
     simp only [List.nil_append]at t1 t2 t3
     have t1':dS (cn (mB M) o) ((0:Int),nx,bk,[])=some (nx',bk',acc):=t1
     rw [t1',zd]at hstart
     dsimp only at hstart
     subst t3
     rw [sort_int so,zd,dz so,zd]at hstart
     rw [kN hstart]
     have hlt':=l6 (least:=s.ah.cw.toNat) za hmsub hc2
     have hfl:((i::r).filter fun x=>decide (x∉M)).length<=r.length:=by rw [List.length_cons]at hlt';omega
     have:=ih _ nx' bk' (G++[a7.mk (bF ci (M.map (dW o))) (loc s.ah (w.map (plP F o))).aV (loc s.ah (w.map (plP F o))).aX]) L (by rw [List.length_cons]at hP;omega) t2 za (by rw [List.length_append,List.length_singleton];rw [List.length_cons]at hG;omega) (by rw [List.length_cons]at hL;omega)
     refine this.mono fun y hy=>?_
     obtain⟨G',q1,q2⟩:=hy
     rw [rnd,eW,hw,hM,if_pos ⟨hc1,hc2⟩]
     rw [List.append_assoc]at q1
     refine⟨_,q1,?_⟩
     rw [List.singleton_append,List.map_cons,q2,List.map_cons]
    ·rw [if_neg (by rw [gO];simp;omega)]at hstart
     obtain⟨x,x1,x2⟩:=k26
     exact no (fun h=>hc2 h.2) x (hstart.trans x1) x2
   ·rw [if_neg (by rw [gO];simp;omega)]at hstart
    obtain⟨x,x1,x2⟩:=k26
    exact no (fun h=>hc1 h.1) x (hstart.trans x1) x2
theorem valid_at{s:ap}(hs:iH s){F:List Ph}(hn:F.length<=256)(hph:PhOk s.ah F):di s.ah F=some 0:=by
 obtain⟨h1, -,h2,h3,h4,h5,h6,h7,h8,h9,h10,h11⟩:=hs
 have hin:∀{x a b:Int},a<=x->x<=b->dY x a b=some true:=fun h h'=>by
  unfold dY;rw [if_pos (by simpa using h)];simpa using h'
 unfold di
 rw [dJ h1,zd,if_neg sm,gp h2,zd,if_neg sm,hin za za,zd,if_neg sm,hin za za,zd,if_neg sm,hin za za,zd,if_neg sm,hin za za,zd,if_neg sm,hin za za,zd,if_neg sm,if_neg so]
 have:dS (cQ F s.ah) (0:Int)=some (.inl ()):=by
  refine kQ F.length (fun i hi=>?_) ?_
  ·unfold cQ
   have hb:=hph _ (List.getElem_mem hi)
   obtain⟨z,e,hz⟩:=qv h2 h1 hb.1
   rw [if_pos so,gZ (i:=i) rfl hi,zd,e,zd,if_neg (by simp [hz.1.2 hb.2]),w64 za za]
   rfl
  ·unfold cQ
   rw [if_neg sm]
 rw [this];rfl
theorem associate_at {s : ap} (hs : iH s) {F : List Ph} (hF : F.length ≤ 19) (hph : PhOk s.ah F) : ∃ o, nf F o ∧ Ok (fT s.ah F) (fun r => r.2.2 = 0 ∧
  r.1.map (·.co)=(rnd s.ah F o F.length (List.range F.length)).1.map (fun g=>bF ci (g.map (dW o)))∧r.2.1=bF ci ((rnd s.ah F o F.length (List.range F.length)).2.map (dW o))):=by
 obtain⟨o,e,ho⟩:=order_at (F:=F) za
 refine⟨o,ho,?_⟩
 unfold fT
 rw [valid_at hs za hph,zd,if_neg sm,e,zd]
 refine Ok.bind (newChain_at (n:=F.length) za) (fun c⟨c1,c2,c3⟩=>?_)
 refine Ok.bind (rounds_at hs rfl hF hph ho F.length (List.range F.length) c.np c.fback [] [] sm ⟨c1,c2,c3,?_,fun x hx=>List.mem_range.1 hx⟩ sm sm sm) (fun r hr=>?_)
 ·rw [List.nodup_cons]
  exact⟨sm,List.nodup_range⟩
 ·obtain⟨G',rfl,hG⟩:=hr
  simp only [List.nil_append]
  have hp:((rnd s.ah F o F.length (List.range F.length)).1.flatten++(rnd s.ah F o F.length (List.range F.length)).2).Perm (List.range F.length):=lz (pY s.ah (plP F o) s.ah.cB) (least:=s.ah.cw.toNat) (by have:=hs.least.1;omega) F.length (List.range F.length) sm List.nodup_range
  have hl:=hp.length_eq
  rw [List.length_append,List.length_range]at hl
  rw [sort_int (by rw [List.length_map];omega),zd]
  exact Ok.ret ⟨rfl,hG,rfl⟩
end Go.Dw.Ek
set_option maxRecDepth 100000
set_option maxHeartbeats 4000000
namespace Go.Dw.Ek
open Go.Dw Go.Proofs
open Sd (kD e9 ev)
structure UsV(a:ap)(r:ak×av×Bool):Prop where
 ph:PhV r.1
 reach:Reach a.ah.bi (mY a.ah.aO r.1.aN)
 resp:nC r.2.1.bN
noncomputable def used (a:ap) (v:ar) (p:Pick):ak×av×Bool:=(cO a v p).getD (⟨⟨0,0,0⟩,0,0,0⟩,zEp,false)
theorem epAt_ok{v:ar}(hv:kH v){s:Sid}{t:Int}{e:av}(h:epAt v s t=some e):EpOk e:=by
 unfold epAt at h
 cases hc:chan v s with
 |none=>rw [hc]at h;cases h
 |some c=>
  rw [hc]at h
  exact(hv.all c (chan_mem hc).1).2.all e (epIn_mem h).1
theorem qo{e:av}(he:EpOk e){p:Pick}(hp:ik p):PhV ⟨e.bj,p.aK,p.bf,1⟩:=by
 obtain⟨h0,h1,h2,h3,h4,h5⟩:=hp
 exact⟨he.pos,h1,zc,zc,rfl⟩
theorem mc{a:ap}(ha:iH a){v:ar}(hv:kH v){p:Pick}(hp:ik p):cO a v p=some (used a v p)∧((used a v p).2.2=true->UsV a (used a v p)):=by
 have h:Ok (cO a v p) (fun r=>r.2.2=true->UsV a r):=by
  unfold cO
  rw [pX hp,zd,if_neg sm,At_eq hv.lens (mh hv),zd]
  cases h:epAt v p.aD p.aX with
  |none=>
   dsimp only
   rw [if_pos sm]
   exact Ok.ret sm
  |some e=>
   dsimp only
   rw [if_neg sm]
   have he:=epAt_ok hv h
   refine Ok.bind (qv ha.tab ha.box (a:=⟨e.bj,p.aK,p.bf,1⟩) (qo he hp)) (fun z hz=>?_)
   exact Ok.qQ (fun _=>Ok.ret sm) (fun h0=>Ok.ret fun _=>⟨qo he hp,hz.1.1 h0,he.resp⟩)
 obtain⟨r,e,hr⟩:=h
 have:used a v p=r:=by unfold used;rw [e];rfl
 rw [this]
 exact⟨e,hr⟩
noncomputable def bY (a:ap) (v:ar) (L:List Pick):List Pick:=L.filter fun p=>(used a v p).2.2
noncomputable def mat (a:ap) (v:ar) (U:List Pick):aS:=⟨U,U.map fun p=>(used a v p).1,U.map fun p=>(used a v p).2.1⟩
theorem gather_at{a:ap}(ha:iH a){v:ar}(hv:kH v){l L:List Pick}(hL:c7 l=some L)(hl:L.length<=20)(hp:∀p∈L,ik p):gP a v l=some (mat a v (bY a v L),0):=by
 unfold gP
 rw [set_valid ha,zd,if_neg sm,mh hv,zd,if_neg sm,hL,zd]
 have:Ok (dS (jb L a v) ((0:Int),([]:List ae),([]:List ak),([]:List av))) (fun o=>o=((mat a v (bY a v L)).du,(mat a v (bY a v L)).dc,(mat a v (bY a v L)).jn)):=by
  refine Ok.loop (fun s:Int×List Pick×List ak×List av=>∃i:Nat,i<=L.length∧s=((i:Int),(mat a v (bY a v (L.take i))).du,(mat a v (bY a v (L.take i))).dc,(mat a v (bY a v (L.take i))).jn)) (fun s=>((L.length:Int)-s.1).toNat) ?_ ⟨0,Nat.zero_le _,rfl⟩
  rintro s ⟨i,i0,rfl⟩
  unfold jb
  dsimp only
  refine Ok.gC (fun hlt=>?_) (fun hge=>Ok.st ?_)
  rotate_left
  ·obtain rfl:i=L.length:=by omega
   rw [List.take_length]
  have hi:i<L.length:=by omega
  have hlu:(bY a v (L.take i)).length<=20:=by
   have:=List.length_filter_le (fun p=>(used a v p).2.2) (L.take i)
   have h2:(L.take i).length<=L.length:=by rw [List.length_take];omega
   unfold bY;omega
  rw [gZ rfl hi,zd,(mc ha hv (hp _ (List.getElem_mem hi))).1,zd,w64 za za]
  have ht:bY a v (L.take (i+1))=bY a v (L.take i)++(if(used a v L[i]).2.2=true then [L[i]]else []):=by
   unfold bY
   rw [jy hi,List.filter_append]
   congr 1
   by_cases h:(used a v L[i]).2.2=true<;>simp [h]
  by_cases hu:(used a v L[i]).2.2=true
  ·rw [if_pos hu]at ht⊢
   rw [dz (by simp only [mat,List.length_cons,List.length_nil];omega),zd,dz (by simp only [mat,List.length_map,List.length_cons,List.length_nil];omega),zd,dz (by simp only [mat,List.length_map,List.length_cons,List.length_nil];omega),zd]
   refine Ok.nx ⟨i+1,hi,?_⟩ zc
   rw [ht]
   simp [mat]
  ·rw [if_neg hu]at ht⊢
   refine Ok.nx ⟨i+1,hi,?_⟩ zc
   rw [ht]
   simp
 rw [this.eq,zd]
noncomputable def pV (m:aS) (a:ap):Option (bc×Int):=
 (iQ m a).bind fun x3=>if(x3.2 != (0:Int))=true then(some ((bc.mk [] (aj.mk (aa.mk 0 0 0) 0 0 0 (ai.mk (aa.mk 0 0 0) (aa.mk 0 0 0))) (aA.mk 0 0) 0),x3.2))else((db x3.1 a.bS).bind fun x5=>if(x5.2 != (0:Int))=true then(some ((bc.mk [] (aj.mk (aa.mk 0 0 0) 0 0 0 (ai.mk (aa.mk 0 0 0) (aa.mk 0 0 0))) (aA.mk 0 0) 0),x5.2))else((cM m a x5.1.aY).bind fun x7=>if(decide ((x7.length:Int)>(0:Int)))=true then((fB x7).bind fun x9=>if(x9.2 != (0:Int))=true then(some ((bc.mk [] (aj.mk (aa.mk 0 0 0) 0 0 0 (ai.mk (aa.mk 0 0 0) (aa.mk 0 0 0))) (aA.mk 0 0) 0),x9.2))else(some ((bc.mk m.du x5.1 x9.1 (x7.length:Int)),(0:Int))))else(some ((bc.mk m.du x5.1 (aA.mk 0 0) 0),(0:Int)))))
theorem solve_at{a:ap}{v:ar}{l:List Pick}{m:aS}(h:gP a v l=some (m,0)):gm a v l=pV m a:=by
 unfold gm
 rw [h,zd,if_neg sm]
 rfl
structure MatP(a:ap)(m:aS):Prop where
 mat:MatV m
 ph:∀b∈m.dc,PhV b∧Reach a.ah.bi (mY a.ah.aO b.aN)
theorem mat_ok{a:ap}(ha:iH a){v:ar}(hv:kH v){U:List Pick}(hl:U.length<=19)(hp:∀p∈U,ik p∧(used a v p).2.2=true):MatP a (mat a v U):=by
 refine⟨⟨⟨by simp [mat],by simp [mat]⟩,hl,fun b hb=>?_,fun e he=>?_⟩,fun b hb=>?_⟩
 ·obtain⟨p,h,rfl⟩:=List.mem_map.1 hb
  exact((mc ha hv (hp p h).1).2 (hp p h).2).ph.pos
 ·obtain⟨p,h,rfl⟩:=List.mem_map.1 he
  exact((mc ha hv (hp p h).1).2 (hp p h).2).resp
 ·obtain⟨p,h,rfl⟩:=List.mem_map.1 hb
  have:=(mc ha hv (hp p h).1).2 (hp p h).2
  exact⟨this.ph,this.reach⟩
theorem clone_at'{l:List Int}(h:l.length<=1000):ru 8 l=some l:=by
 unfold ru
 rw [if_pos za]
theorem solve_ok{a:ap}(ha:iH a){m:aS}(hm:MatP a m):Ok (pV m a) (fun r=>(m.du=[]->r.2=24)∧(m.du≠ []->r.2=0∧r.1.cg=m.du∧(m.du.length=1->r.1.aq.bh=0))∧r.1.cg.length<=19):=by
 obtain⟨hm,hph⟩:=hm
 obtain⟨⟨l1,l2⟩,l3, -, -⟩:=id hm
 have hl:=ha.tab.len;have hs:=ha.tab.same
 unfold pV iQ
 by_cases h0:m.du=[]
 ·rw [if_pos (by simp [l1,h0]),zd,if_pos sm]
  exact Ok.ret ⟨fun _=>rfl,fun h=>(h h0).elim,sm⟩
 have hpos:=List.length_pos_iff.2 h0
 rw [if_neg (by simp;intro e;rw [e]at l1;simp at l1;omega),if_neg so,clone_at' za,zd,clone_at' za,zd,zd,if_neg sm]
 have hq:PV ⟨a.ah.aO,⟨a.ah.bi.bn,a.ah.bi.aL,a.ah.bi.aF⟩,m.dc,a.ah.da⟩:=⟨ha.box,ha.reg,ha.tab,⟨zc,zc⟩,ha.cap,hph⟩
 refine Ok.bind (locate_ok hq ha.tolerance.1) (fun x⟨x1,x2,x3⟩=>?_)
 refine Ok.qQ (fun h=>(h x1).elim) (fun _=>?_)
 refine Ok.bind (estimates_ok ha hm (x2.ok ha.box ha.reg)) (fun y hy=>?_)
 have hmis:m.du.length=1->x.1.bh=0:=fun h=>x3 (by show m.dc.length=1;omega)
 refine Ok.gC (fun hgt=>?_) (fun _=>Ok.ret ⟨fun h=>(h0 h).elim,fun _=>⟨rfl,rfl,hmis⟩,l3⟩)
 refine Ok.bind (network_ok za hy.1 hy.2) (fun z hz=>?_)
 exact Ok.qQ (fun h=>(h hz).elim) (fun _=>Ok.ret ⟨fun h=>(h0 h).elim,fun _=>⟨rfl,rfl,hmis⟩,l3⟩)
theorem same_self{s:bc}(h:s.cg.length<=1000):nY s s=some true:=by
 unfold nY
 rw [same_refl h]
 simp
end Go.Dw.Ek
set_option maxRecDepth 100000
set_option maxHeartbeats 4000000
namespace Go.Dw.Ek
open Go.Dw Go.Proofs
open Sd (kD e9 ev)
def jM(a b:Pick):Int:=if qF a.aX b.aX≠0 then qF a.aX b.aX else c9 a b
theorem cmpE_eq(a b:Pick):jg a b=some (jM a b):=by
 unfold jg
 simp only [Sd.jY,kG,zd,cmp_or2]
 rfl
theorem jX:Tot jM:=(qU.map fun x:Pick=>x.aX).or bP
theorem cmpE_zero{a b:Pick}(h:jM a b=0):a=b:=by
 unfold jM at h
 exact eX (mq h).2
def z0:Pick:=⟨⟨[],[],[],[]⟩,0,0,0,0,0⟩
def nmF(b:Pick)(l:List Pick):Pick:=l.foldl (fun b x=>if jM x b<0 then x else b) b
def nm:List Pick->Pick
 | []=>z0
 |p::l=>nmF p l
theorem nmF_least:∀(l:List Pick)(b:Pick),nmF b l∈b::l∧∀x∈b::l,jM (nmF b l) x<=0
 | [], b => ⟨by simp [nmF], fun x hx => by
  rw [List.mem_singleton.1 hx]
  have:=jX.refl b
  show jM b b<=0
  omega⟩
 |y::l,b=>by
  have hu:nmF b (y::l)=nmF (if jM y b<0 then y else b) l:=rfl
  rw [hu]
  obtain⟨h1,h2⟩:=nmF_least l (if jM y b<0 then y else b)
  have h3:=h2 (if jM y b<0 then y else b) sm
  by_cases h:jM y b<0
  ·rw [if_pos h]at h1 h2 h3⊢
   refine⟨List.mem_cons_of_mem _ h1,fun x hx=>?_⟩
   rcases List.mem_cons.1 hx with rfl|hx
   ·exact jX.tr _ _ _ h3 za
   ·exact h2 x hx
  ·rw [if_neg h]at h1 h2 h3⊢
   refine⟨?_,fun x hx=>?_⟩
   ·rcases List.mem_cons.1 h1 with h1|h1
    ·rw [h1];simp
    ·exact List.mem_cons_of_mem _ (List.mem_cons_of_mem _ h1)
   ·rcases List.mem_cons.1 hx with rfl|hx
    ·exact h3
    ·rcases List.mem_cons.1 hx with rfl|hx
     ·have:=jX.sw x b
      exact jX.tr _ _ _ h3 za
     ·exact h2 x (List.mem_cons_of_mem _ hx)
theorem nm_least{l:List Pick}(h:l≠ []):nm l∈l∧∀x∈l,jM (nm l) x<=0:=by
 cases l with
 |nil=>exact(h rfl).elim
 |cons p l=>exact nmF_least l p
theorem name_at{l:List Pick}(hl:l.length<=1000):nM l=some (nm l):=by
 unfold nM
 cases l with
 |nil=>rw [if_pos sm];rfl
 |cons p l=>
  rw [if_neg so]
  unfold eS
  rw [if_neg so,show eQ (p::l) (0:Int)=some p from rfl,zd]
  have key:∀(k i:Nat)(b:Pick),i+k=(p::l).length->dS (cf (p::l)) ((i:Int),b.aD.a8,b.aD.aN,b.aD.aq,b.aD.bd,b.aX,b.aK,b.bf,b.aQ,b.aU)=
    some (let c:=nmF b ((p::l).drop i);(c.aD.a8,c.aD.aN,c.aD.aq,c.aD.bd,c.aX,c.aK,c.bf,c.aQ,c.aU)):=by
   intro k
   induction k with
   |zero=>
    intro i b hi
    obtain rfl:i=(p::l).length:=by omega
    rw [gD (o:=(b.aD.a8,b.aD.aN,b.aD.aq,b.aD.bd,b.aX,b.aK,b.bf,b.aQ,b.aU))]
    ·rw [List.drop_length];rfl
    ·unfold cf
     dsimp only
     rw [if_neg sm]
   |succ k ih=>
    intro i b hi
    have hlt:i<(p::l).length:=by omega
    rw [List.drop_eq_getElem_cons hlt]
    have hbody:cf (p::l) ((i:Int),b.aD.a8,b.aD.aN,b.aD.aq,b.aD.bd,b.aX,b.aK,b.bf,b.aQ,b.aU)=
      some (.next (let c:=(if jM (p::l)[i] b<0 then(p::l)[i]else b);(((i+1:Nat):Int),c.aD.a8,c.aD.aN,c.aD.aq,c.aD.bd,c.aX,c.aK,c.bf,c.aQ,c.aU))):=by
     unfold cf
     dsimp only
     rw [if_pos (by simp at hlt⊢;omega),gZ (i:=i) rfl hlt,zd,cmpE_eq,zd,w64 za (by simp at hlt hl;omega)]
     by_cases h:jM (p::l)[i] b<0
     ·rw [if_pos (by simpa using h),if_pos h,zd];rfl
     ·rw [if_neg (by simpa using h),if_neg h];rfl
    rw [kN hbody]
    exact ih (i+1) _ za
  have:=key l.length 1 p so
  have h1:(1:Int)=((1:Nat):Int):=rfl
  rw [h1,this]
  rfl
theorem usable1_at{s:ap}(hs:iH s){v:ar}(hv:kH v){p:Pick}(hp:ik p):jt s v p=some ((used s v p).1,(used s v p).2.2):=by
 unfold jt
 rw [set_valid hs,zd,if_neg sm,mh hv,zd,if_neg sm,(mc hs hv hp).1]
 rfl
noncomputable def phU (s:ap) (v:ar) (p:Pick):Ph:=(used s v p).1
theorem eusable_at{s:ap}(hs:iH s){v:ar}(hv:kH v){l L:List Pick}(hL:c7 l=some L)(hl:L.length<=200)(hp:∀p∈L,ik p):kf s v l=some (bY s v L,(bY s v L).map (phU s v),0):=by
 unfold kf
 rw [set_valid hs,zd,if_neg sm,mh hv,zd,if_neg sm,hL,zd]
 have hu:∀i,(bY s v (L.take i)).length<=i:=fun i=>by
  have:=List.length_filter_le (fun p=>(used s v p).2.2) (L.take i)
  have h2:(L.take i).length<=i:=by rw [List.length_take];omega
  unfold bY;omega
 have:Ok (dS (kK L s v) ((0:Int),([]:List ae),([]:List ak))) (fun o=>o=(bY s v L,(bY s v L).map (phU s v))):=by
  refine Ok.loop (fun x:Int×List Pick×List ak=>∃i:Nat,i<=L.length∧x=((i:Int),bY s v (L.take i),(bY s v (L.take i)).map (phU s v))) (fun x=>((L.length:Int)-x.1).toNat) ?_ ⟨0,Nat.zero_le _,rfl⟩
  rintro x ⟨i,i0,rfl⟩
  unfold kK
  dsimp only
  refine Ok.gC (fun hlt=>?_) (fun hge=>Ok.st ?_)
  rotate_left
  ·obtain rfl:i=L.length:=by omega
   rw [List.take_length]
  have hi:i<L.length:=by omega
  have hlu:=hu i
  rw [gZ rfl hi,zd,usable1_at hs hv (hp _ (List.getElem_mem hi)),zd,w64 za za]
  have ht:bY s v (L.take (i+1))=bY s v (L.take i)++(if(used s v L[i]).2.2=true then [L[i]]else []):=by
   unfold bY
   rw [jy hi,List.filter_append]
   congr 1
   by_cases h:(used s v L[i]).2.2=true<;>simp [h]
  by_cases h:(used s v L[i]).2.2=true
  ·rw [if_pos h]at ht⊢
   rw [dz so,zd,dz so,zd]
   refine Ok.nx ⟨i+1,hi,?_⟩ zc
   rw [ht]
   simp [phU]
  ·rw [if_neg h]at ht⊢
   refine Ok.nx ⟨i+1,hi,?_⟩ zc
   rw [ht]
   simp
 have hl':=hu L.length
 rw [List.take_length]at hl'
 rw [this.eq,zd]
 dsimp only
 rw [if_neg so]
noncomputable def cmpA (s:ap) (v:ar) (a b:Pick):Int:=if cmpF (phU s v a) (phU s v b)≠0 then cmpF (phU s v a) (phU s v b)else c9 a b
theorem jW(s:ap)(v:ar):Tot (cmpA s v):=(cmpF_tot.map (phU s v)).or bP
theorem nk{s:ap}{v:ar}{a b:Pick}(h:cmpA s v a b=0):a=b:=by
 unfold cmpA at h
 exact eX (mq h).2
noncomputable def dq (s:ap) (v:ar) (U:List Pick):List Pick:=bF (fun a b=>decide (cmpA s v a b<0)) U
theorem dh{α:Type}{c:α->α->Int}(hc:Tot c)(h0:∀x y,c x y=0->x=y){l:List α}(hl:l.Nodup):(bF (fun x y=>decide (c x y<0)) l).Pairwise (fun x y=>c x y<0):=by
 have h1:=sortI_le hc l
 have h2:(bF (fun x y=>decide (c x y<0)) l).Nodup:=(bz _ l).nodup_iff.2 hl
 refine(h1.and h2).imp fun{x y}h=>?_
 rcases Int.lt_or_eq_of_le h.1 with h3|h3
 ·exact h3
 ·exact(h.2 (h0 x y h3)).elim
theorem cV{α:Type}{c:α->α->Int}(hc:Tot c){l:List α}(h:l.Pairwise (fun x y=>c x y<0)):l.Nodup:=h.imp fun{x y}h e=>by
 subst e
 have:=hc.refl x
 omega
noncomputable abbrev cP:Pick->Pick->Bool:=fun x y=>decide (c9 x y<0)
noncomputable abbrev cE:au->au->Bool:=fun x y=>decide (jM x.aZ y.aZ<0)
noncomputable def lM (s:ap) (v:ar) (O:List Pick):List (List Pick)×List Pick:=rounds s.ah.cw.toNat (n9 (fun p=>(phU s v p).aK) s.ah.cB) (om s.ah (phU s v)) O.length O
noncomputable def sol (s:ap) (v:ar) (m:List Pick):bc:=((pV (mat s v m) s).getD (⟨[],⟨⟨0,0,0⟩,0,0,0,⟨⟨0,0,0⟩,⟨0,0,0⟩⟩⟩,⟨0,0⟩,0⟩,0)).1
noncomputable def evM (s:ap) (v:ar) (m:List Pick):au:=⟨nm m,sol s v m⟩
def UsOk(s:ap)(v:ar)(U:List Pick):Prop:=∀p∈U,ik p∧(used s v p).2.2=true
theorem n8{s:ap}{v:ar}{U:List Pick}(h:UsOk s v U):bY s v U=U:=List.filter_eq_self.2 fun p hp=>(h p hp).2
theorem oV{m:List Pick}(hm:m.Pairwise fun x y=>c9 x y<0)(hl:m.length<=1000):c7 m=some m:=by
 obtain⟨r,e,h1,h2, -⟩:=p8 hl
 rw [e,jm h1 hm h2]
theorem oU{s:ap}(hs:iH s){v:ar}(hv:kH v){m:List Pick}(hm:m.Pairwise fun x y=>c9 x y<0)(hu:UsOk s v m)(hl:m.length<=19)(h0:m≠ []):gm s v m=some (sol s v m,0)∧(sol s v m).cg=m:=by
 have hg:=gather_at hs hv (oV hm za) za (fun p hp=>(hu p hp).1)
 rw [n8 hu]at hg
 obtain⟨r,e, -,h1, -⟩:=solve_ok hs (mat_ok hs hv hl hu)
 obtain⟨h2,h3, -⟩:=h1 (by simpa [mat]using h0)
 obtain⟨r1,r2⟩:=r
 simp only at h2 h3
 subst h2
 have:sol s v m=r1:=by unfold sol;rw [e];rfl
 rw [solve_at hg,e,this]
 exact⟨rfl,h3⟩
theorem PhOk_of{s:ap}(hs:iH s){v:ar}(hv:kH v){U:List Pick}(hu:UsOk s v U):PhOk s.ah (U.map (phU s v)):=fun b hb=>by
 obtain⟨p,hp,rfl⟩:=List.mem_map.1 hb
 have:=(mc hs hv (hu p hp).1).2 (hu p hp).2
 exact⟨this.ph,this.reach⟩
theorem names_eq(x y:au):jj ⟨⟩ x y=some (jM x.aZ y.aZ):=by unfold jj;rw [cmpE_eq];rfl
theorem ins_event{l:List au}(hn:l.length<=1000):cy 0 (l.length:Int) l=some (bF cE l):=by
 refine Eq.trans (b:=insG (fun x y=>jj ⟨⟩ x y) (fun c=>decide (c<0)) 0 (l.length:Int) l) rfl (insG_at (S:=fun _=>True) (fun x y _ _=>⟨_,names_eq x y,rfl⟩) (fun _ _=>trivial) hn)
theorem sort_event{l:List au}(hn:l.length<=12):c8 l=some (bF cE l):=by
 unfold c8
 obtain⟨b,eb, -⟩:=bits_ok (n:=IntKind.wrap .u64 (l.length:Int)) (u64_range _)
 rw [eb,zd]
 have h1:(dS (bV l.length 0 l b) ())=some (bF cE l):=by
  refine gD ?_
  unfold bV
  rw [w64 za za,if_pos so,ins_event za]
  rfl
 have h2:ct 0 (l.length:Int) b l=some (bF cE l):=by
  unfold ct
  refine Bn ⟨1,?_⟩ fun n s hs=>?_
  ·show((dS (bV l.length 0 l b) ()).bind fun o6=>some o6)=_
   rw [h1];rfl
  ·cases n with
   |zero=>cases hs
   |succ n=>
    have hs':((dS (bV l.length 0 l b) ()).bind fun o6=>some o6)=some s:=hs
    rw [h1]at hs'
    exact(Option.some.inj hs').symm
 rw [h2];rfl
theorem nodup_map{α β:Type}{f:α->β}{l:List α}(hl:l.Nodup)(h:∀x∈l,∀y∈l,f x=f y->x=y):(l.map f).Nodup:=by
 unfold List.Nodup at hl⊢
 rw [List.pairwise_map]
 refine List.pairwise_iff_forall_sublist.2 fun{a b}hab e=>?_
 exact List.pairwise_iff_forall_sublist.1 hl hab (h a (hab.subset sm) b (hab.subset sm) e)
theorem nodup_of_map{α β:Type}{f:α->β}{l:List α}(h:(l.map f).Nodup):l.Nodup:=by
 unfold List.Nodup at h⊢
 rw [List.pairwise_map]at h
 exact h.imp fun{a b}hn e=>hn (congrArg f e)
theorem inj_of_map{α β:Type}{f:α->β}:∀{l:List α},(l.map f).Nodup->∀x∈l,∀y∈l,f x=f y->x=y
 | [],_,x,hx,_,_,_=>by cases hx
 |a::l,h,x,hx,y,hy,e=>by
  rw [List.map_cons,List.nodup_cons]at h
  rcases List.mem_cons.1 hx with rfl|hx'
  ·rcases List.mem_cons.1 hy with rfl|hy'
   ·rfl
   ·exact(h.1 (by rw [e];exact List.mem_map_of_mem hy')).elim
  ·rcases List.mem_cons.1 hy with rfl|hy'
   ·exact(h.1 (by rw [<-e];exact List.mem_map_of_mem hx')).elim
   ·exact inj_of_map h.2 x hx' y hy' e
def uAt(U:List Pick)(i:Int):Pick:=U.getD i.toNat z0
theorem uAt_get{U:List Pick}{i:Int}(h0:0<=i)(h1:i<U.length):eQ U i=some (uAt U i):=by
 rw [gZ (i:=i.toNat) za za]
 unfold uAt
 rw [List.getD_eq_getElem?_getD,ze za];rfl
theorem uAt_mem{U:List Pick}{i:Int}(h0:0<=i)(h1:i<U.length):uAt U i∈U:=by
 unfold uAt
 rw [List.getD_eq_getElem?_getD,ze za]
 exact List.getElem_mem _
theorem uAt_lt{U:List Pick}(hU:U.Pairwise fun x y=>c9 x y<0){i k:Int}(h0:0<=i)(h1:i<k)(h2:k<U.length):c9 (uAt U i) (uAt U k)<0:=by
 unfold uAt
 rw [List.getD_eq_getElem?_getD,ze za,List.getD_eq_getElem?_getD,ze za]
 exact List.pairwise_iff_getElem.1 hU _ _ _ _ za
theorem uAt_ph{s:ap}{v:ar}{U:List Pick}{i:Int}(h0:0<=i)(h1:i<U.length):oo (U.map (phU s v)) i=phU s v (uAt U i):=by
 unfold oo uAt
 rw [List.getD_eq_getElem?_getD,ze so,List.getD_eq_getElem?_getD,ze za]
 simp
def pk(U:List Pick)(o:List Int)(j:Nat):Pick:=uAt U (dW o j)
theorem ci_strict{l:List Int}(hl:l.Nodup):(bF ci l).Pairwise (· < ·):=(dh qU (fun x y h=>wW.1 h) hl).imp fun{x y}h=>by unfold qF at h;repeat' split at h<;>omega
theorem idx_sort{U:List Pick}(hU:U.Pairwise fun x y=>c9 x y<0){l:List Int}(hd:l.Nodup)(hl:∀i∈l,0<=i∧i<U.length):(bF ci l).map (uAt U)=bF cP (l.map (uAt U)):=by
 have hl':∀i∈bF ci l,0<=i∧i<U.length:=fun i hi=>hl i ((bz _ l).mem_iff.1 hi)
 have h1:((bF ci l).map (uAt U)).Pairwise fun x y=>c9 x y<0:=by
  rw [List.pairwise_map]
  refine(List.pairwise_iff_forall_sublist.2 fun{a b}hab=>?_)
  have hlt:=List.pairwise_iff_forall_sublist.1 (ci_strict hd) hab
  have ma:=hl' a (hab.subset sm);have mb:=hl' b (hab.subset sm)
  exact uAt_lt hU ma.1 hlt mb.2
 have h2:(l.map (uAt U)).Nodup:=by
  have:=cV bP h1
  refine((bz ci l).map (uAt U)).nodup_iff.1 this
 refine fO bP h1 (dh bP (fun _ _=>eX) h2) fun x=>?_
 rw [(bz cP _).mem_iff,((bz ci l).map (uAt U)).mem_iff]
theorem pk_sorted{s:ap}{v:ar}{U:List Pick}(hU:U.Pairwise fun x y=>c9 x y<0){o:List Int}(ho:nf (U.map (phU s v)) o):(List.range U.length).map (pk U o)=dq s v U:=by
 have e1:(List.range U.length).map (pk U o)=o.map (uAt U):=by
  refine List.ext_getElem (by simp [ho.len]) fun j h1 h2=>?_
  simp only [List.getElem_map,List.getElem_range]
  unfold pk dW
  rw [List.getD_eq_getElem?_getD,ze (by simpa using h2)];rfl
 rw [e1]
 have hm:∀i,i∈o↔0<=i∧i<U.length:=fun i=>by rw [ho.perm.mem_iff,ids_mem,List.length_map]
 have h1:(o.map (uAt U)).Pairwise fun x y=>cmpA s v x y<0:=by
  rw [List.pairwise_map]
  refine(List.pairwise_iff_forall_sublist.2 fun{a b}hab=>?_)
  have hlt:=List.pairwise_iff_forall_sublist.1 ho.lex hab
  have ma:=(hm a).1 (hab.subset sm);have mb:=(hm b).1 (hab.subset sm)
  unfold Lex at hlt
  dsimp only at hlt
  rw [uAt_ph ma.1 ma.2,uAt_ph mb.1 mb.2]at hlt
  unfold cmpA
  rcases hlt with h|⟨h,h'⟩
  ·rw [if_pos za];exact h
  ·rw [if_neg za];exact uAt_lt hU ma.1 h' mb.2
 refine fO (jW s v) h1 (dh (jW s v) (fun _ _=>nk) (cV bP hU)) fun x=>?_
 unfold dq
 rw [(bz _ U).mem_iff,List.mem_map]
 constructor
 ·rintro⟨i,hi,rfl⟩
  exact uAt_mem ((hm i).1 hi).1 ((hm i).1 hi).2
 ·intro hx
  obtain⟨i,hi,rfl⟩:=List.mem_iff_getElem.1 hx
  refine⟨(i:Int),(hm _).2 ⟨za,za⟩,?_⟩
  unfold uAt
  rw [Int.toNat_natCast,List.getD_eq_getElem?_getD,ze hi];rfl
theorem find_at{s:ap}(hs:iH s){v:ar}(hv:kH v){l L:List Pick}(hL:c7 l=some L)(hsL:L.Pairwise fun x y=>c9 x y<0)(hl:L.length<=200)(hp:∀p∈L,ik p)(hu:(bY s v L).length<=19):
  eC s v l=some (bF cE ((lM s v (dq s v (bY s v L))).1.map fun g=>evM s v (bF cP g)),bF cP (lM s v (dq s v (bY s v L))).2,0):=by
 have hU:(bY s v L).Pairwise fun x y=>c9 x y<0:=hsL.filter _
 have hus:UsOk s v (bY s v L):=fun p h=>by
  have:=List.mem_filter.1 h
  exact⟨hp p this.1,this.2⟩
 unfold eC
 rw [eusable_at hs hv hL hl hp,zd,if_neg sm]
 generalize bY s v L=U at hu hU hus⊢
 have hFl:(U.map (phU s v)).length=U.length:=List.length_map ..
 obtain⟨o,ho,⟨⟨G,Z,e⟩,eA,r1,r2,r3⟩⟩:=associate_at hs (F:=U.map (phU s v)) za (PhOk_of hs hv hus)
 simp only at r1 r2 r3
 subst r1
 rw [eA,zd,if_neg sm]
 rw [hFl]at r2 r3
 have hord:∀j∈List.range U.length,0<=dW o j∧dW o j<U.length:=fun j hj=>by
  have:=ho.range (j:=j) (by rw [hFl];exact List.mem_range.1 hj)
  rw [hFl]at this;exact this
 have hplP:∀j∈List.range U.length,phU s v (pk U o j)=plP (U.map (phU s v)) o j:=fun j hj=>by
  unfold plP pk
  rw [uAt_ph (hord j hj).1 (hord j hj).2]
 have hOnd:((List.range U.length).map (pk U o)).Nodup:=by
  rw [pk_sorted hU ho]
  exact(bz _ U).nodup_iff.2 (cV bP hU)
 have hinj:∀x∈List.range U.length,∀y∈List.range U.length,pk U o x=pk U o y->x=y:=inj_of_map hOnd
 have hmap := pS (least := s.ah.cw.toNat) (win := n9 (fun j => (plP (U.map (phU s v)) o j).aK) s.ah.cB) (mem := om s.ah (plP (U.map (phU s v)) o)) (win' := n9 (fun p => (phU s v p).aK) s.ah.cB) (mem' := om s.ah (phU s v)) (f := pk U o) (List.range U.length) hinj (pY _ _ _) U.length (List.range U.length) (List.Sublist.refl _) (fun l' hl' => by
  have h1:∀x∈l',phU s v (pk U o x)=plP (U.map (phU s v)) o x:=fun x hx=>hplP x (hl'.subset hx)
  refine⟨winK_map l' fun x hx=>by rw [h1 x hx],memK_map fun x hx=>h1 x ((winK_sub _ _ l').subset hx)⟩)
 rw [pk_sorted hU ho]at hmap
 have hOl:(dq s v U).length=U.length:=cH _ _
 have hR:lM s v (dq s v U)=((rnd s.ah (U.map (phU s v)) o U.length (List.range U.length)).1.map (List.map (pk U o)),(rnd s.ah (U.map (phU s v)) o U.length (List.range U.length)).2.map (pk U o)):=by
  unfold lM
  rw [hOl];exact hmap
 have hperm:=lz (pY s.ah (plP (U.map (phU s v)) o) s.ah.cB) (least:=s.ah.cw.toNat) (by have:=hs.least.1;omega) U.length (List.range U.length) sm List.nodup_range
 have hlen:=pR (win:=n9 (fun j=>(plP (U.map (phU s v)) o j).aK) s.ah.cB) (mem:=om s.ah (plP (U.map (phU s v)) o)) (least:=s.ah.cw.toNat) U.length (List.range U.length)
 rw [hR]
 generalize hrd:rnd s.ah (U.map (phU s v)) o U.length (List.range U.length)=rd at r2 r3
 have hrd':rounds s.ah.cw.toNat (n9 (fun j=>(plP (U.map (phU s v)) o j).aK) s.ah.cB) (om s.ah (plP (U.map (phU s v)) o)) U.length (List.range U.length)=rd:=hrd
 rw [hrd']at hperm hlen
 obtain⟨A,B⟩:=rd
 simp only at r2 r3 hperm hlen⊢
 have hmem:∀g∈A,g.Nodup∧g.Sublist A.flatten:=fun g hg=>by
  have h1:g.Sublist A.flatten:=List.sublist_flatten_of_mem hg
  have h2:(A.flatten++B).Nodup:=hperm.nodup_iff.2 List.nodup_range
  exact⟨(List.nodup_append.1 h2).1.sublist h1,h1⟩
 have hin:∀g∈A,∀j∈g,j∈List.range U.length:=fun g hg j hj=>hperm.mem_iff.1 (List.mem_append.2 (.inl ((hmem g hg).2.subset hj)))
 have hinB:∀j∈B,j∈List.range U.length:=fun j hj=>hperm.mem_iff.1 (List.mem_append.2 (.inr hj))
 have hBn:B.Nodup:=by
  have h2:(A.flatten++B).Nodup:=hperm.nodup_iff.2 List.nodup_range
  exact(List.nodup_append.1 h2).2.1
 have ordInj:∀{g:List Nat},g.Nodup->(∀j∈g,j∈List.range U.length)->(g.map (dW o)).Nodup:=fun{g}hg hj=>by
  refine nodup_of_map (f:=uAt U) ?_
  rw [List.map_map]
  exact nodup_map hg fun x hx y hy h=>hinj x (hj x hx) y (hj y hy) h
 have hidx:∀g:List Nat,g.Nodup->(∀j∈g,j∈List.range U.length)->(bF ci (g.map (dW o))).map (uAt U)=bF cP (g.map (pk U o)):=fun g hg hj=>by
  rw [idx_sort hU (ordInj hg hj) (fun i hi=>by obtain⟨j,hj',rfl⟩:=List.mem_map.1 hi;exact hord j (hj j hj')),List.map_map]
  rfl
 have hGm:∀g∈G,∃a∈A,g.co=bF ci (a.map (dW o)):=fun g hg=>by
  have:g.co∈G.map (·.co):=List.mem_map_of_mem hg
  rw [r2]at this
  obtain⟨a,ha,e⟩:=List.mem_map.1 this
  exact⟨a,ha,e.symm⟩
 have hGl:G.length=A.length:=by
  have:=congrArg List.length r2
  simpa using this
 have hfl:A.flatten.length+B.length=U.length:=by
  have:=hperm.length_eq
  simpa using this
 have hAl:2*A.length<=A.flatten.length:=by
  have:∀X:List (List Nat),(∀g∈X,2<=g.length)->2*X.length<=X.flatten.length:=by
   intro X
   induction X with
   |nil=>intro _;simp
   |cons x X ih=>
    intro h
    have:=ih fun g hg=>h g (List.mem_cons_of_mem _ hg)
    have:=h x sm
    rw [List.flatten_cons,List.length_append,List.length_cons];omega
  exact this A fun g hg=>by have:=hlen g hg;have:=hs.least.1;omega
 have hgl:∀a∈A,a.length<=19:=fun a ha=>by have:=(hmem a ha).2.length_le;omega
 have hev:∀g∈G,gm s v (g.co.map (uAt U))=some (sol s v (g.co.map (uAt U)),0)∧(sol s v (g.co.map (uAt U))).cg=g.co.map (uAt U)∧(g.co.map (uAt U)).length<=19∧(∀i∈g.co,0<=i∧i<U.length):=fun g hg=>by
  obtain⟨a,ha,e⟩:=hGm g hg
  have e2:g.co.map (uAt U)=bF cP (a.map (pk U o)):=by rw [e,hidx a (hmem a ha).1 (hin a ha)]
  have hnd:(a.map (pk U o)).Nodup:=nodup_map (hmem a ha).1 fun x hx y hy h=>hinj x (hin a ha x hx) y (hin a ha y hy) h
  have hl1:(bF cP (a.map (pk U o))).length=a.length:=by rw [cH,List.length_map]
  have h12:=hgl a ha
  have hne:bF cP (a.map (pk U o))≠ []:=fun h=>by
   rw [h]at hl1
   have:=hlen a ha;have:=hs.least.1
   simp at hl1;omega
  obtain ⟨q1, q2⟩ := oU hs hv (m := bF cP (a.map (pk U o))) (dh bP (fun _ _ => eX) hnd) (fun p hp' => by
   have:=(bz cP _).mem_iff.1 hp'
   obtain⟨j,hj,rfl⟩:=List.mem_map.1 this
   have hj':=hord j (hin a ha j hj)
   exact hus _ (uAt_mem hj'.1 hj'.2)) za hne
  rw [e2]
  refine⟨q1,q2,za,fun i hi=>?_⟩
  rw [e]at hi
  obtain⟨j,hj,rfl⟩:=List.mem_map.1 ((bz ci _).mem_iff.1 hi)
  exact hord j (hin a ha j hj)
 have h27:dS (kd (G,Z,0) (U,U.map (phU s v),0) s v) ((0:Int),([]:List au))=some (.inl (G.map fun g=>evM s v (g.co.map (uAt U)))):=by
  refine oH (l:=G) (f:=fun g=>evM s v (g.co.map (uAt U))) (g:=fun x=>(Sum.inl x:List au⊕(List au×List Pick×Int))) (fun i hi acc ha=>?_) (fun acc ha=>?_)
  ·obtain⟨q1,q2,q3,q4⟩:=hev _ (List.getElem_mem hi)
   unfold kd
   dsimp only
   rw [if_pos so,gZ (i:=i) rfl hi,zd]
   have h21:dS (kc G[i] (U,U.map (phU s v),0) (i:Int) acc) ((0:Int),([]:List ae))=some ((i:Int),acc,G[i].co.map (uAt U)):=by
    refine oH (l:=G[i].co) (f:=uAt U) (g:=fun x=>((i:Int),acc,x)) (fun k hk acc' ha'=>?_) (fun acc' ha'=>?_)
    ·have hk':=q4 _ (List.getElem_mem hk)
     rw [List.length_map]at q3
     unfold kc
     dsimp only
     rw [if_pos so,gZ (i:=k) rfl hk,zd,uAt_get hk'.1 hk'.2,zd,dz so,zd,w64 za za]
     rfl
    ·unfold kc
     dsimp only
     rw [if_neg sm]
   rw [h21,zd]
   dsimp only
   rw [q1,zd,if_neg sm]
   dsimp only
   rw [q2,name_at za,zd,dz so,zd,w64 za za]
   rfl
  ·unfold kd
   dsimp only
   rw [if_neg sm]
 have h40:dS (ke (G,Z,0) (U,U.map (phU s v),0)) ((0:Int),([]:List ae))=some (Z.map (uAt U)):=by
  have hZ:∀i∈Z,0<=i∧i<U.length:=fun i hi=>by
   rw [r3]at hi
   obtain⟨j,hj,rfl⟩:=List.mem_map.1 ((bz ci _).mem_iff.1 hi)
   exact hord j (hinB j hj)
  have hZl:Z.length<=19:=by rw [r3,cH,List.length_map];omega
  refine oH (l:=Z) (f:=uAt U) (g:=fun x=>x) (fun k hk acc ha=>?_) (fun acc ha=>?_)
  ·have hk':=hZ _ (List.getElem_mem hk)
   unfold ke
   dsimp only
   rw [if_pos so,gZ (i:=k) rfl hk,zd,uAt_get hk'.1 hk'.2,zd,dz so,zd,w64 za za]
   rfl
  ·unfold ke
   dsimp only
   rw [if_neg sm]
 rw [h27,zd]
 dsimp only
 rw [sort_event (by rw [List.length_map];omega),zd,h40,zd]
 have e1:G.map (fun g=>evM s v (g.co.map (uAt U)))=(A.map (List.map (pk U o))).map fun g=>evM s v (bF cP g):=by
  have:G.map (fun g=>evM s v (g.co.map (uAt U)))=(G.map (·.co)).map fun is=>evM s v (is.map (uAt U)):=by rw [List.map_map];rfl
  rw [this,r2,List.map_map,List.map_map]
  refine List.map_congr_left fun g hg=>?_
  simp only [Function.comp]
  rw [hidx g (hmem g hg).1 (hin g hg)]
 have e2:Z.map (uAt U)=bF cP (B.map (pk U o)):=by rw [r3,hidx B hBn hinB]
 rw [e1,e2]
end Go.Dw.Ek
set_option maxRecDepth 100000
set_option maxHeartbeats 4000000
namespace Go.Dw.Ek
open Go.Dw Go.Proofs
open Sd (kD e9 ev)
theorem used_form{a:ap}(ha:iH a){v:ar}(hv:kH v){p:Pick}(hp:ik p)(hu:(used a v p).2.2=true):∃e,epAt v p.aD p.aX=some e∧phU a v p=⟨e.bj,p.aK,p.bf,1⟩:=by
 have h1:=(mc ha hv hp).1
 unfold cO at h1
 rw [pX hp,zd,if_neg sm,At_eq hv.lens (mh hv),zd]at h1
 cases h:epAt v p.aD p.aX with
 |none=>
  rw [h]at h1
  dsimp only at h1
  rw [if_pos sm]at h1
  have:=congrArg (fun r=>r.2.2) (Option.some.inj h1)
  rw [hu]at this
  cases this
 |some e=>
  rw [h]at h1
  dsimp only at h1
  rw [if_neg sm]at h1
  have he:=epAt_ok hv h
  obtain⟨z,ez, -⟩:=qv ha.tab ha.box (a:=⟨e.bj,p.aK,p.bf,1⟩) (qo he hp)
  rw [ez,zd]at h1
  split at h1
  ·have:=congrArg (fun r=>r.2.2) (Option.some.inj h1)
   rw [hu]at this
   cases this
  ·refine⟨e,rfl,?_⟩
   unfold phU
   rw [<-Option.some.inj h1]
theorem costS_zero{cap:Int}(hc:1<=cap){t:Int}{f:Ph->aG}:∀(ps:List Ph),(∀a∈ps,a.bA=1)->bZ cap ps (ps.map f) t<=0->∀a∈ps,res (f a) t=0
 | [],_,_,a,ha=>by cases ha
 |b::ps,hw,h,a,ha=>by
  have h1:bZ cap (b::ps) ((b::ps).map f) t=ig cap b.bA (f b) t+bZ cap ps (ps.map f) t:=rfl
  have h2:=nK (cap:=cap) za (t:=t) ps (ps.map f) (fun x hx=>by have:=hw x (List.mem_cons_of_mem _ hx);omega)
  have h3:ig cap b.bA (f b) t=min cap (res (f b) t):=by unfold ig;rw [hw b sm];omega
  have h4:0<=res (f b) t:=by unfold res;omega
  have h5:bZ cap ps (ps.map f) t<=0:=by omega
  rcases List.mem_cons.1 ha with rfl|ha
  ·omega
  ·exact costS_zero hc ps (fun x hx=>hw x (List.mem_cons_of_mem _ hx)) h5 a ha
theorem zero_costS{cap:Int}(hc:1<=cap){t:Int}{f:Ph->aG}:∀(ps:List Ph),(∀a∈ps,a.bA=1)->(∀a∈ps,res (f a) t=0)->bZ cap ps (ps.map f) t=0
 | [],_,_=>rfl
 |b::ps,hw,h=>by
  have h1:bZ cap (b::ps) ((b::ps).map f) t=ig cap b.bA (f b) t+bZ cap ps (ps.map f) t:=rfl
  have h3:ig cap b.bA (f b) t=min cap (res (f b) t):=by unfold ig;rw [hw b sm];omega
  have h4:=h b sm
  have:=zero_costS hc ps (fun x hx=>hw x (List.mem_cons_of_mem _ hx)) (fun x hx=>h x (List.mem_cons_of_mem _ hx))
  omega
theorem mis_zero{q:ag}(hq:PV q){p:aa}(h:In q.aO p){t:Int}(hz:∀b∈q.ba,res (zn q ⟨p,p⟩ b) t=0):mis q p=0:=by
 obtain⟨t', -,hB⟩:=oJ hq h
 have hw:∀a∈q.ba,a.bA=1:=fun a ha=>(hq.ph a ha).1.weight
 have h0:=zero_costS (f:=zn q ⟨p,p⟩) hq.cap.1 q.ba hw hz
 have hl:=hq.len
 obtain⟨e,he,hle⟩:=least_end (cap:=q.da) (by have:=hq.cap;omega) (ps:=q.ba) (zs:=q.ba.map (zn q ⟨p,p⟩)) (fun h=>by rw [List.map_eq_nil_iff]at h;rw [h]at hl;simp at hl) (fun a ha=>by have:=hw a ha;omega) (fun z hz=>by obtain⟨b,hb,rfl⟩:=List.mem_map.1 hz;exact(zn_at hq h hb).2.2.1) t
 have:=hB.least e he
 have:=(mis_range hq h).1
 simp only at*
 omega
theorem fit_all{s:ap}(hs:iH s){ph:List Ph}(hp:PhOk s.ah ph)(hl:1<=ph.length∧ph.length<=64)(h0:(loc s.ah ph).bh<=0):∀b∈ph,fits s.ah ph b=true:=by
 have hq:=prob_ok hs hp hl
 obtain⟨-,hL, -⟩:=loc_at hs hp hl
 obtain⟨t,e1,hB⟩:=oJ hq hL.inn
 rw [hL.val]at e1
 simp only [Option.some.injEq,Prod.mk.injEq]at e1
 obtain⟨e1,e2, -⟩:=e1
 have hc:=hB.cost
 simp only at hc
 rw [<-e1, <-e2]at hc
 have hw:∀a∈ph,a.bA=1:=fun a ha=>(hp a ha).1.weight
 have:=costS_zero (f:=zn (oq s.ah ph) ⟨(loc s.ah ph).aV,(loc s.ah ph).aV⟩) (t:=(loc s.ah ph).aX) hs.cap.1 ph hw (by rw [show bZ s.ah.da ph (ph.map _) _=(loc s.ah ph).bh from hc.symm];exact h0)
 intro b hb
 unfold fits
 rw [this b hb]
 simpa using hs.limit.1
theorem sortI_self{α:Type}{c:α->α->Int}(hc:Tot c)(h0:∀x y,c x y=0->x=y){l:List α}(h:l.Pairwise fun x y=>c x y<0):bF (fun x y=>decide (c x y<0)) l=l:=
 fO hc (dh hc h0 (cV hc h)) h fun _=>(bz _ l).mem_iff
theorem rnd_one{s:ap}(hs:iH s){v:ar}{O:List Pick}(h1:s.ah.cw.toNat<=O.length)(h16:O.length<=16)(hw:∀p∈O,∀i∈O,(phU s v p).aK-(phU s v i).aK<=s.ah.cB)
  (hf:∀b∈O.map (phU s v),fits s.ah (O.map (phU s v)) b=true):lM s v O=([O],[]):=by
 have hle:=hs.least.1
 have hm:om s.ah (phU s v) O=O:=List.filter_eq_self.2 fun p hp=>hf _ (List.mem_map_of_mem hp)
 have hr0:∀n,rounds s.ah.cw.toNat (n9 (fun p=>(phU s v p).aK) s.ah.cB) (om s.ah (phU s v)) n ([]:List Pick)=([],[]):=fun n=>by cases n<;>rfl
 unfold lM
 match O,h1,h16,hw,hm with
 | [],h1,_,_,_=>simp at h1;omega
 |i::r,h1,h16,hw,hm=>
  have hwin:n9 (fun p=>(phU s v p).aK) s.ah.cB (i::r)=i::r:=by
   show((i::r).takeWhile fun j=>decide ((phU s v j).aK-(phU s v i).aK<=s.ah.cB)).take 16=_
   have:(i::r).takeWhile (fun j=>decide ((phU s v j).aK-(phU s v i).aK<=s.ah.cB))=i::r:=by
    have key:∀(p:Pick->Bool)(l:List Pick),(∀x∈l,p x=true)->l.takeWhile p=l:=by
     intro p l
     induction l with
     |nil=>intro _;rfl
     |cons x l ih=>
      intro h
      rw [List.takeWhile_cons_of_pos (h x sm),ih fun y hy=>h y (List.mem_cons_of_mem _ hy)]
    exact key _ _ fun x hx=>by simpa using hw x hx i sm
   rw [this,List.take_of_length_le h16]
  show rounds _ _ _ (r.length+1) (i::r)=_
  rw [eW,hwin,hm,if_pos ⟨h1,h1⟩]
  have:(i::r).filter (fun x=>decide (x∉i::r))=[]:=by
   rw [List.filter_eq_nil_iff]
   intro x hx
   simp only [decide_eq_true_eq]
   exact fun h=>h hx
  rw [this,hr0]
theorem index_one(e:au)(p:Pick):im [e] p=some (if e.aZ=p then 0 else-1):=by
 unfold im eP
 have hl:kJ e p=some (decide (e.aZ=p)):=congrArg some (eqs e.aZ p)
 by_cases h:e.aZ=p
 ·rw [gD (o:= .inr 0)]
  ·rw [if_pos h];rfl
  ·unfold cS
   rw [if_pos sm,show eQ [e] (0:Int)=some e from rfl,zd,hl,zd,if_pos (by simpa using h)]
 ·rw [kN (s':=1),gD (o:= .inl ())]
  ·rw [if_neg h];rfl
  ·unfold cS
   rw [if_neg sm]
  ·unfold cS
   rw [if_pos sm,show eQ [e] (0:Int)=some e from rfl,zd,hl,zd,if_neg (by simpa using h)]
   rfl
end Go.Dw.Ek
set_option maxRecDepth 100000
set_option maxHeartbeats 4000000
namespace Go.Dw.Ek
open Go.Dw Go.Proofs
open Sd (kD e9 ev)
noncomputable def fE (s:ap) (v:ar) (U:List Pick):List au:=bF cE ((lM s v (dq s v U)).1.map fun g=>evM s v (bF cP g))
noncomputable def fR (s:ap) (v:ar) (U:List Pick):List Pick:=bF cP (lM s v (dq s v U)).2
structure Gr(s:ap)(v:ar)(U g:List Pick):Prop where
 least:s.ah.cw.toNat<=g.length
 len:g.length<=U.length
 nd:g.Nodup
 sub:∀p∈g,p∈U
 picks:(evM s v (bF cP g)).aB.cg=bF cP g
 asc:(bF cP g).Pairwise fun x y=>c9 x y<0
theorem lv{s:ap}(hs:iH s){v:ar}{U:List Pick}(hU:U.Pairwise fun x y=>c9 x y<0):((lM s v (dq s v U)).1.flatten++(lM s v (dq s v U)).2).Perm U:=by
 have hnd:=cV bP hU
 have hO:(dq s v U).Nodup:=(bz _ U).nodup_iff.2 hnd
 exact(lz (pY s.ah (phU s v) s.ah.cB) (least:=s.ah.cw.toNat) (by have:=hs.least.1;omega) (dq s v U).length (dq s v U) (Nat.le_refl _) hO).trans (bz _ U)
theorem qg{s:ap}(hs:iH s){v:ar}(hv:kH v){U:List Pick}(hU:U.Pairwise fun x y=>c9 x y<0)(hus:UsOk s v U)(hl:U.length<=19){g:List Pick}(hg:g∈(lM s v (dq s v U)).1):Gr s v U g:=by
 have hperm:=lv hs (v:=v) hU
 have hnd:=cV bP hU
 have h1:g.Sublist (lM s v (dq s v U)).1.flatten:=List.sublist_flatten_of_mem hg
 have h2:=hperm.nodup_iff.2 hnd
 have hgn:g.Nodup:=(List.nodup_append.1 h2).1.sublist h1
 have hsub:∀p∈g,p∈U:=fun p hp=>hperm.mem_iff.1 (List.mem_append.2 (.inl (h1.subset hp)))
 have hleast:=pR (win:=n9 (fun p=>(phU s v p).aK) s.ah.cB) (mem:=om s.ah (phU s v)) (least:=s.ah.cw.toNat) (dq s v U).length (dq s v U) g hg
 have hlen:g.length<=U.length:=by
  have:=hperm.length_eq
  rw [List.length_append]at this
  have:=h1.length_le
  omega
 have hasc:=dh bP (fun _ _=>eX) hgn
 refine⟨hleast,hlen,hgn,hsub,?_,hasc⟩
 refine(oU hs hv hasc (fun p hp=>hus p (hsub p ((bz _ g).mem_iff.1 hp))) (by rw [cH];omega) fun h=>?_).2
 have:=cH cP g
 rw [h]at this
 have:=hs.least.1
 simp at*
 omega
theorem fE_mem{s:ap}{v:ar}{U:List Pick}{e:au}:e∈fE s v U↔∃g∈(lM s v (dq s v U)).1,e=evM s v (bF cP g):=by
 unfold fE
 rw [(bz _ _).mem_iff,List.mem_map]
 exact⟨fun⟨g,h,e⟩=>⟨g,h,e.symm⟩,fun⟨g,h,e⟩=>⟨g,h,e.symm⟩⟩
theorem same_events{l:List au}(hl:l.length<=1000)(h:∀e∈l,e.aB.cg.length<=1000):mD l l=some true:=by
 have hb:∀i:Nat,i<l.length->iz l l (i:Int)=some (.next ((i+1:Nat):Int)):=fun i hi=>by
  unfold iz
  rw [if_pos so,gZ (i:=i) rfl hi,zd,zd,if_neg sm,zd,zd,same_self (h _ (List.getElem_mem hi)),zd,if_neg sm,w64 za za]
  rfl
 have he:iz l l ((l.length:Nat):Int)=some (.stop (.inl ())):=by
  unfold iz
  rw [if_neg sm]
 unfold mD
 rw [if_neg sm,kQ l.length hb he]
 rfl
theorem fE_len{s:ap}(hs:iH s){v:ar}{U:List Pick}(hU:U.Pairwise fun x y=>c9 x y<0):(fE s v U).length<=U.length:=by
 unfold fE
 rw [cH,List.length_map]
 have hperm:=(lv hs (v:=v) hU).length_eq
 have hlen:=pR (win:=n9 (fun p=>(phU s v p).aK) s.ah.cB) (mem:=om s.ah (phU s v)) (least:=s.ah.cw.toNat) (dq s v U).length (dq s v U)
 have key:∀X:List (List Pick),(∀g∈X,1<=g.length)->X.length<=X.flatten.length:=by
  intro X
  induction X with
  |nil=>intro _;simp
  |cons x X ih=>
   intro h
   have:=ih fun g hg=>h g (List.mem_cons_of_mem _ hg)
   have:=h x sm
   rw [List.flatten_cons,List.length_append,List.length_cons];omega
 have:=key (lM s v (dq s v U)).1 fun g hg=>by have:=hlen g hg;have:=hs.least.1;omega
 rw [List.length_append]at hperm
 omega
theorem fR_len{s:ap}(hs:iH s){v:ar}{U:List Pick}(hU:U.Pairwise fun x y=>c9 x y<0):(fR s v U).length<=U.length:=by
 unfold fR
 rw [cH]
 have hperm:=(lv hs (v:=v) hU).length_eq
 rw [List.length_append]at hperm
 omega
theorem find_ok{s:ap}(hs:iH s){v:ar}(hv:kH v){l:List Pick}(hl:l.length<=19)(hp:∀p∈l,ik p):∃L,c7 l=some L∧L.Pairwise (fun x y=>c9 x y<0)∧(∀x,x∈L↔x∈l)∧L.length<=l.length∧
  (bY s v L).Pairwise (fun x y=>c9 x y<0)∧UsOk s v (bY s v L)∧(bY s v L).length<=l.length∧eC s v l=some (fE s v (bY s v L),fR s v (bY s v L),0):=by
 obtain⟨L,e,h1,h2,h3⟩:=p8 (l:=l) za
 have hu:(bY s v L).length<=L.length:=List.length_filter_le _ _
 exact⟨L,e,h1,h2,h3,h1.filter _,fun p h=>⟨hp p ((h2 p).1 (List.mem_filter.1 h).1),(List.mem_filter.1 h).2⟩,za,find_at hs hv e h1 za (fun p h=>hp p ((h2 p).1 h)) za⟩
theorem found_same{s:ap}(hs:iH s){v:ar}(hv:kH v){U:List Pick}(hU:U.Pairwise fun x y=>c9 x y<0)(hus:UsOk s v U)(hl:U.length<=19):mD (fE s v U) (fE s v U)=some true∧fq (fR s v U) (fR s v U)=some true:=by
 have h1:=fE_len hs (v:=v) hU;have h2:=fR_len hs (v:=v) hU
 refine⟨same_events za fun e he=>?_,same_refl za⟩
 obtain⟨g,hg,rfl⟩:=fE_mem.1 he
 have:=qg hs hv hU hus hl hg
 rw [this.picks,cH]
 have:=this.len
 omega
end Go.Dw.Ek
set_option maxRecDepth 100000
set_option maxHeartbeats 4000000
namespace Go.Dw.Ek
open Go.Dw Go.Proofs
open Sd (kD e9 ev)
structure EvsOk(E:List au):Prop where
 len:E.length<=100
 one:∀e∈E,e.aB.cg≠ []∧e.aB.cg.length<=100∧(e.aB.cg.Pairwise fun x y=>c9 x y<0)∧e.aZ=nm e.aB.cg
 asc:E.Pairwise fun x y=>jM x.aZ y.aZ<0
 nd:(E.flatMap fun e=>e.aB.cg).Nodup
theorem nodup_parts{α β:Type}{f:α->List β}:∀{l:List α},(l.flatMap f).Nodup->l.Pairwise fun a b=>∀x∈f a,x∉f b
 | [],_=>.nil
 |a::l,h=>by
  rw [List.flatMap_cons,List.nodup_append]at h
  refine List.pairwise_cons.2 ⟨fun b hb x hx hx'=>h.2.2 x hx x (List.mem_flatMap.2 ⟨b,hb,hx'⟩) rfl,nodup_parts h.2.1⟩
theorem oZ{α β:Type}{f g:α->List β}:∀{l:List α},(∀a∈l,(f a).Perm (g a))->(l.flatMap f).Perm (l.flatMap g)
 | [],_=>List.Perm.refl _
 |a::l,h=>by
  rw [List.flatMap_cons,List.flatMap_cons]
  exact(h a sm).append (oZ fun b hb=>h b (List.mem_cons_of_mem _ hb))
theorem found_perm{s:ap}(hs:iH s){v:ar}(hv:kH v){U:List Pick}(hU:U.Pairwise fun x y=>c9 x y<0)(hus:UsOk s v U)(hl:U.length<=19):(((fE s v U).flatMap fun e=>e.aB.cg)++fR s v U).Perm U:=by
 refine List.Perm.trans ?_ (lv hs (v:=v) hU)
 refine List.Perm.append ?_ (bz _ _)
 have h1:((fE s v U).flatMap fun e=>e.aB.cg).Perm (((lM s v (dq s v U)).1.map fun g=>evM s v (bF cP g)).flatMap fun e=>e.aB.cg):=(bz _ _).flatMap_right _
 refine h1.trans ?_
 rw [List.flatMap_map]
 have h2:=oZ (f:=fun g=>(evM s v (bF cP g)).aB.cg) (g:=id) (l:=(lM s v (dq s v U)).1) fun g hg=>by
  rw [(qg hs hv hU hus hl hg).picks]
  exact bz _ g
 refine h2.trans ?_
 rw [List.flatMap_id]
theorem found_ok{s:ap}(hs:iH s){v:ar}(hv:kH v){U:List Pick}(hU:U.Pairwise fun x y=>c9 x y<0)(hus:UsOk s v U)(hl:U.length<=19):EvsOk (fE s v U):=by
 have hperm:=found_perm hs hv hU hus hl
 have hnd:((fE s v U).flatMap fun e=>e.aB.cg).Nodup:=(List.nodup_append.1 (hperm.nodup_iff.2 (cV bP hU))).1
 have hone:∀e∈fE s v U,e.aB.cg≠ []∧e.aB.cg.length<=100∧(e.aB.cg.Pairwise fun x y=>c9 x y<0)∧e.aZ=nm e.aB.cg:=fun e he=>by
  obtain⟨g,hg,rfl⟩:=fE_mem.1 he
  have h:=qg hs hv hU hus hl hg
  have h1:=h.least;have h2:=h.len;have h3:=hs.least.1
  have h4:=cH cP g
  rw [h.picks]
  exact⟨fun hn=>by rw [hn]at h4;simp at h4;omega,za,h.asc,rfl⟩
 refine⟨by have:=fE_len hs (v:=v) hU;omega,hone,?_,hnd⟩
 have hle:(fE s v U).Pairwise fun x y=>jM x.aZ y.aZ<=0:=sortI_le (jX.map fun e:au=>e.aZ) _
 have hdis:=nodup_parts hnd
 refine List.pairwise_iff_forall_sublist.2 fun{a b}hab=>?_
 have h1:=List.pairwise_iff_forall_sublist.1 hle hab
 have h2:=List.pairwise_iff_forall_sublist.1 hdis hab
 rcases Int.lt_or_eq_of_le h1 with h|h
 ·exact h
 ·obtain⟨a1, -, -,a4⟩:=hone a (hab.subset sm)
  obtain⟨b1, -, -,b4⟩:=hone b (hab.subset sm)
  have hab':=cmpE_zero h
  have ha:=(nm_least a1).1
  have hb:=(nm_least b1).1
  rw [<-a4]at ha
  rw [<-b4, <-hab']at hb
  exact(h2 _ ha hb).elim
end Go.Dw.Ek
set_option maxRecDepth 100000
set_option maxHeartbeats 4000000
namespace Go.Dw.Ek
open Go.Dw
namespace Sd
theorem ref_cmp(a b:List UInt8):fN a b=some (tg a b):=by
 unfold fN tg
 cases h:Op.bytesLess a b with
 |true=>simp
 |false=>by_cases e:a=b<;>simp [e]
theorem ku(a b:Src):lg a b=some (kD a b):=by
 unfold lg kD
 simp only [ref_cmp,zd,bne_iff_ne,ne_eq]
 by_cases h1:tg a.a8 b.a8=0<;>by_cases h2:tg a.aN b.aN=0<;>by_cases h3:tg a.aq b.aq=0<;>by_cases h4:tg a.bd b.bd=0<;>simp [h1,h2,h3,h4]
end Sd
open Sd (kD e9 ev)
theorem step_int{β:Type}(a b:Int)(k:Option Int):(if(decide (a<b))=true then(some (-1:Int))else(if(decide (a>b))=true then(some (1:Int))else k))=(if qF a b≠0 then some (qF a b)else k):=by
 unfold qF
 by_cases h1:a<b
 ·rw [if_pos (decide_eq_true h1)];simp [h1]
 ·rw [if_neg (by simpa using h1)]
  by_cases h2:a>b
  ·rw [if_pos (decide_eq_true h2)];simp [h1,h2]
  ·rw [if_neg (by simpa using h2)];simp [h1,h2]
theorem some_ite{c:Prop} [Decidable c] (a b:Int):(if c then some a else some b)=some (if c then a else b):=by split<;>rfl
theorem ku(a b:Pick):jk a b=some (c9 a b):=by
 unfold jk c9
 rw [Sd.ku,zd]
 have e1:((kD a.aD b.aD != (0:Int))=true)=(kD a.aD b.aD≠0):=by simp
 simp only [step_int (β:=Unit),e1]
 have hp:(if qF a.aU b.aU≠0 then some (qF a.aU b.aU)else some 0)=some (qF a.aU b.aU):=by
  by_cases h:qF a.aU b.aU=0<;>simp [h]
 rw [hp]
 simp only [some_ite]
end Go.Dw.Ek
set_option maxRecDepth 100000
set_option maxHeartbeats 4000000
namespace Go.Dw.Ek
open Go.Dw Go.Proofs
open Sd (kD e9 ev)
theorem win_part{α:Type}{k:α->Int}{span:Int}(hsp:0<=span){C D:List α}(hne:C≠ [])(hfar:∀x∈C,∀y∈D,k y-k x>span):n9 k span (C++D)=n9 k span C:=by
 match C,hne with
 |i::r,_=>
  show(((i::r)++D).takeWhile fun j=>decide (k j-k i<=span)).take 16=((i::r).takeWhile fun j=>decide (k j-k i<=span)).take 16
  have key:∀(p:α->Bool)(l m:List α),(∀y∈m,p y=false)->(l++m).takeWhile p=l.takeWhile p:=by
   intro p l m hm
   induction l with
   |nil=>
    cases m with
    |nil=>rfl
    |cons y m=>rw [List.nil_append,List.takeWhile_cons_of_neg (by rw [hm y sm];simp)];rfl
   |cons x l ih=>
    by_cases h:p x=true
    ·rw [List.cons_append,List.takeWhile_cons_of_pos h,List.takeWhile_cons_of_pos h,ih]
    ·rw [List.cons_append,List.takeWhile_cons_of_neg h,List.takeWhile_cons_of_neg h]
  rw [key _ _ _ fun y hy=>by have:=hfar i sm y hy;simp;omega]
theorem rcmpE_eq(a b:Pick):lj a b=some (jM a b):=by
 unfold lj jM qF
 by_cases h1:a.aX<b.aX
 ·rw [if_pos (by simpa using h1),if_pos h1];rfl
 ·rw [if_neg (by simpa using h1),if_neg h1]
  by_cases h2:a.aX>b.aX
  ·rw [if_pos (by simpa using h2),if_pos h2];rfl
  ·rw [if_neg (by simpa using h2),if_neg h2,ku];rfl
abbrev Ascending(l:List au):Prop:=l.Pairwise fun x y=>jM x.aZ y.aZ<0
theorem insert_at{l:List au}{x:au}(hl:l.length<=100)(ha:Ascending l)(hx:∀y∈l,y.aZ≠x.aZ):∃m,l8 l x=some m∧m.Perm (x::l)∧Ascending m:=by
 have hpl:Ok (dS (lK l x) (0:Int)) (fun r=>∃k:Nat,r=(k:Int)∧k<=l.length∧(∀y∈l.take k,jM y.aZ x.aZ<0)∧∀(h:k<l.length),¬jM l[k].aZ x.aZ<0):=by
  refine Ok.loop (fun z:Int=>∃k:Nat,z=(k:Int)∧k<=l.length∧∀y∈l.take k,jM y.aZ x.aZ<0) (fun z=>((l.length:Int)-z).toNat) ?_ ⟨0,rfl,Nat.zero_le _,sm⟩
  rintro z ⟨k,rfl,h1,h2⟩
  unfold lK
  refine Ok.gC (fun hlt=>?_) (fun hge=>Ok.st ⟨k,rfl,h1,h2,fun h=>za⟩)
  have hk:k<l.length:=by omega
  rw [gZ (i:=k) rfl hk,zd,rcmpE_eq,zd]
  refine Ok.gC (fun hc=>?_) (fun hc=>Ok.st ⟨k,rfl,h1,h2,fun _=>hc⟩)
  rw [w64 za za]
  refine Ok.nx ⟨k+1,rfl,hk,fun y hy=>?_⟩ za
  rw [jy hk]at hy
  rcases List.mem_append.1 hy with hy|hy
  ·exact h2 y hy
  ·rw [List.mem_singleton.1 hy];exact hc
 obtain⟨r,er,k,rfl,h1,h2,h3⟩:=hpl
 unfold l8
 have c1:wD l 0 (k:Int)=some (l.take k):=by
  have:=Sq.cutO_at (l:=l) (a:=0) (b:=(k:Int)) (i:=0) (j:=k) rfl rfl (Nat.zero_le _) h1
  simpa using this
 have c2:wD l (k:Int) (l.length:Int)=some (l.drop k):=by
  have:=Sq.cutO_at (l:=l) (a:=(k:Int)) (b:=(l.length:Int)) (i:=k) (j:=l.length) rfl rfl h1 (Nat.le_refl _)
  rw [this,List.take_of_length_le sm]
 have hlt:(l.take k).length<=100:=by rw [List.length_take];omega
 have hld:(l.drop k).length<=100:=by rw [List.length_drop];omega
 rw [er,zd,c1,zd,dz (by simp only [List.length_nil];omega),zd,List.nil_append,dz (by simp only [List.length_cons,List.length_nil];omega),zd,c2,zd,dz (by simp only [List.length_append,List.length_cons,List.length_nil];omega),zd]
 refine⟨_,rfl,?_,?_⟩
 ·rw [List.append_assoc]
  refine List.perm_middle.trans ?_
  show(x::(l.take k++l.drop k)).Perm _
  rw [List.take_append_drop]
 ·rw [List.append_assoc]
  have hsplit:=ha
  unfold Ascending at hsplit
  rw [<-List.take_append_drop k l,List.pairwise_append]at hsplit
  obtain⟨a1,a2,a3⟩:=hsplit
  refine List.pairwise_append.2 ⟨a1,List.pairwise_cons.2 ⟨fun y hy=>?_,a2⟩,fun y hy z hz=>?_⟩
  ·have hk:k<l.length:=by
    apply Classical.byContradiction
    intro h
    rw [List.drop_of_length_le za]at hy
    cases hy
   have h4:=h3 hk
   have h5:jM x.aZ l[k].aZ<0:=by
    have h6:=jX.sw l[k].aZ x.aZ
    have h7:jM l[k].aZ x.aZ≠0:=fun h=>hx _ (List.getElem_mem hk) (cmpE_zero h)
    omega
   rw [List.drop_eq_getElem_cons hk]at hy a2
   rcases List.mem_cons.1 hy with rfl|hy
   ·exact h5
   ·exact jX.lt h5 (by have:=(List.pairwise_cons.1 a2).1 y hy;omega)
  ·rcases List.mem_cons.1 hz with rfl|hz
   ·exact h2 y hy
   ·exact a3 y hy z hz
theorem join_at{a b:List au}(ha:Ascending a)(hn:((a++b).map (·.aZ)).Nodup)(hl:(a++b).length<=100):∃m,nZ a b=some m∧m.Perm (a++b)∧Ascending m:=by
 have key:Ok (dS (m9 b) (a,(0:Int))) (fun m=>m.Perm (a++b)∧Ascending m):=by
  refine Ok.loop (fun z:List au×Int=>∃k:Nat,z.2=(k:Int)∧k<=b.length∧z.1.Perm (a++b.take k)∧Ascending z.1) (fun z=>((b.length:Int)-z.2).toNat) ?_ ⟨0,rfl,Nat.zero_le _,sm,ha⟩
  rintro⟨m,z⟩ ⟨k,h0,h1,h2,h3⟩
  simp only at h0 h2 h3
  subst h0
  unfold m9
  dsimp only
  refine Ok.gC (fun hlt=>?_) (fun hge=>Ok.st ?_)
  rotate_left
  ·obtain rfl:k=b.length:=by omega
   rw [List.take_length]at h2
   exact⟨h2,h3⟩
  have hk:k<b.length:=by omega
  have hml:=h2.length_eq
  rw [List.length_append,List.length_take]at hml
  rw [List.length_append]at hl
  have hx:∀y∈m,y.aZ≠b[k].aZ:=fun y hy e=>by
   have hy':=h2.mem_iff.1 hy
   have hs:((a++b.take (k+1)).map (·.aZ)).Nodup:=hn.sublist (((List.take_sublist _ _).append_left a).map _)
   rw [jy hk, <-List.append_assoc,List.map_append,List.nodup_append]at hs
   exact hs.2.2 y.aZ (List.mem_map_of_mem hy') b[k].aZ sm e
  obtain⟨m',e1,p1,p2⟩:=insert_at (x:=b[k]) za h3 hx
  rw [gZ (i:=k) rfl hk,zd,e1,zd,w64 za za]
  refine Ok.nx ⟨k+1,rfl,hk,?_,p2⟩ zc
  simp only
  rw [jy hk, <-List.append_assoc]
  exact p1.trans ((h2.cons _).trans (List.perm_append_comm (l₁:=[b[k]])))
 obtain⟨m,e,h1,h2⟩:=key
 unfold nZ
 rw [e,zd]
 exact⟨m,rfl,h1,h2⟩
end Go.Dw.Ek
set_option maxRecDepth 100000
set_option maxHeartbeats 4000000
namespace Go.Dw.Ek
open Go.Dw
open Sd (kD e9 ev)
theorem find_l18{l out:List Pick}{i:Nat}(hi:i<l.length)(ho:out.length<=1000):
  ∃k:Nat,dS (ks out l (i:Int)) (out.length:Int)=some ((i:Int),(k:Int),out)∧k<=out.length∧(∀j,(h:k<=j)->(h':j<out.length)->0<c9 out[j] l[i])∧(∀h:0<k,∀h':k-1<out.length,¬0<c9 (out[k-1]) l[i]):=by
 obtain⟨o,h1,k,rfl,h2⟩:=vj (body:=ks out l (i:Int)) (fun s:Int=>∃k:Nat,s=(k:Int)∧k<=out.length∧∀j,(h:k<=j)->(h':j<out.length)->0<c9 out[j] l[i]) (fun s=>s.toNat)
  (fun o => ∃ k : Nat, o = ((i : Int), (k : Int), out) ∧ k ≤ out.length ∧ (∀ j, (h : k ≤ j) → (h' : j < out.length) → 0 < c9 out[j] l[i]) ∧ (∀ h : 0 < k, ∀ h' : k - 1 < out.length, ¬ 0 < c9 (out[k - 1]) l[i])) (by
  rintro s ⟨k,rfl,hk,hlt⟩
  unfold ks
  by_cases h:0<k
  ·rw [if_pos so,w64 (n:=(k:Int)-1) za za,qA za za,gZ (i:=k-1) za za,gZ (i:=i) rfl hi]
   simp only [zd,ku]
   by_cases hc:c9 (out[k-1]'za) l[i]>0
   ·rw [if_pos (by simpa using hc)]
    refine .inl ⟨_,rfl,⟨k-1,za,za,fun j hj hj'=>?_⟩,za⟩
    by_cases e:j=k-1
    ·subst e;exact hc
    ·exact hlt j za hj'
   ·rw [if_neg (by simpa using hc)]
    exact .inr ⟨_,rfl,k,rfl,hk,hlt,fun _ _=>hc⟩
  ·rw [if_neg so]
   exact .inr ⟨_,rfl,k,rfl,hk,hlt,fun h'=>(h h').elim⟩) (out.length:Int) ⟨out.length,rfl,Nat.le_refl _,fun j hj hj'=>za⟩
 exact⟨k,h1,h2⟩
theorem shift_eq{out:List Pick}{x:Pick}{k:Nat}(hk:k<=out.length):
  (wC (out++[x]) (k+1) (out.length+1-(k+1)) (((out++[x]).drop k).take (out.length+1-k))).set k x=out.take k++x::out.drop k:=by
 have hd:(out++[x]).drop k=out.drop k++[x]:=List.drop_append_of_le_length hk
 have hys:((out++[x]).drop k).take (out.length+1-k)=out.drop k++[x]:=by
  rw [hd];exact List.take_of_length_le so
 unfold wC
 rw [hys]
 have hmin:Nat.min (out.drop k++[x]).length (out.length+1-(k+1))=out.length-k:=by
  show min _ _=_
  simp
 rw [hmin]
 have ht:(out.drop k++[x]).take (out.length-k)=out.drop k:=by
  rw [List.take_append_of_le_length sm]
  exact List.take_of_length_le sm
 have hz:(out++[x]).drop (k+1+(out.length-k))=[]:=List.drop_eq_nil_of_le so
 rw [ht,hz,List.append_nil]
 have hA:(out++[x]).take (k+1)=out.take k++[(out++[x])[k]'so]:=by
  rw [jy so,List.take_append_of_le_length hk]
 rw [hA,List.append_assoc,List.set_append_right _ _ so]
 simp [Nat.min_eq_left hk]
theorem k31_eq{l out:List Pick}{i k:Nat}(hi:i<l.length)(hl:l.length<=1000)(ho:out.length<=1000)(hk:k<=out.length):
  gg l ((i:Int),(k:Int),out)=some (.next (((i+1:Nat):Int),out.take k++l[i]::out.drop k)):=by
 unfold gg
 simp only
 rw [gZ (i:=i) rfl hi,zd,dz so,zd]
 have hlen:(out++[l[i]]).length=out.length+1:=by simp
 rw [w64 (n:=(k:Int)+1) za za,w64 (n:=(i:Int)+1) za za,hlen]
 rw [vK za za za,zd,vK za za za,zd]
 have t1:(0+((k:Int)+1).toNat)=k+1:=by omega
 have t2:(0+(((out.length+1:Nat):Int)).toNat)=out.length+1:=by omega
 have t3:(0+((k:Int)).toNat)=k:=by omega
 rw [t1,t2,t3,yz za za,zd,yp za za,zd,zd]
 have hcl:(wC (out++[l[i]]) (k+1) (out.length+1-(k+1)) (((out++[l[i]]).drop k).take (out.length+1-k))).length=out.length+1:=by
  have:=congrArg List.length (shift_eq (x:=l[i]) hk)
  rw [List.length_set]at this
  rw [this]
  simp
  omega
 rw [qA za za,zd,uF (i:=k) rfl za,zd,shift_eq hk]
 rfl
theorem ins_sorted{out:List Pick}{x:Pick}{k:Nat}(ho:out.Pairwise (fun x y=>c9 x y<0))(hk:k<=out.length)(h1:∀j,(h:k<=j)->(h':j<out.length)->0<c9 out[j] x)
  (h2:∀h:0<k,∀h':k-1<out.length,¬0<c9 (out[k-1]) x∧out[k-1]≠x):(out.take k++x::out.drop k).Pairwise (fun x y=>c9 x y<0):=by
 have hsplit:(out.take k++out.drop k).Pairwise (fun x y=>c9 x y<0):=by rwa [List.take_append_drop]
 obtain⟨p1,p2,p3⟩:=List.pairwise_append.1 hsplit
 have hgt:∀y∈out.drop k,c9 x y<0:=fun y hy=>by
  obtain⟨j,hj,rfl⟩:=List.getElem_of_mem hy
  simp only [List.length_drop]at hj
  rw [List.getElem_drop]
  have:=h1 (k+j) za za
  have:=bP.sw x out[k+j]
  omega
 have hlt:∀y∈out.take k,c9 y x<0:=fun y hy=>by
  obtain⟨j,hj,rfl⟩:=List.getElem_of_mem hy
  simp only [List.length_take]at hj
  rw [List.getElem_take]
  obtain⟨g1,g2⟩:=h2 za za
  have hx:c9 (out[k-1]'za) x<0:=by
   have:=bP.sw (out[k-1]'za) x
   by_cases hz:c9 (out[k-1]'za) x=0
   ·exact(g2 (eX hz)).elim
   ·omega
  by_cases e:j=k-1
  ·subst e;exact hx
  ·have:=List.pairwise_iff_getElem.1 ho j (k-1) za za za
   exact bP.lt this za
 refine List.pairwise_append.2 ⟨p1,List.pairwise_cons.2 ⟨hgt,p2⟩,fun a ha b hb=>?_⟩
 rcases List.mem_cons.1 hb with rfl|hb
 ·exact hlt a ha
 ·exact p3 a ha b hb
theorem ref_Sort_eq{l:List Pick}(hl:l.length<=1000):∃r,nX l=some r∧r.Pairwise (fun x y=>c9 x y<0)∧(∀x,x∈r↔x∈l):=by
 obtain⟨o,h1,h2,h3⟩:=vj (body:=mC l) (fun st:Int×List Pick=>∃(i:Nat)(out:List Pick),st=((i:Int),out)∧i<=l.length∧out.length<=i∧out.Pairwise (fun x y=>c9 x y<0)∧∀x,x∈out↔x∈l.take i) (fun st=>((l.length:Int)-st.1).toNat)
  (fun o => o.Pairwise (fun x y => c9 x y < 0) ∧ ∀ x, x ∈ o ↔ x ∈ l) (by
  rintro st ⟨i,out,rfl,hi,ho,hs,hm⟩
  unfold mC
  simp only
  by_cases hlt:i<l.length
  ·rw [if_pos so]
   obtain⟨k,e1,hk,hlo,hhi⟩:=find_l18 (l:=l) (out:=out) hlt za
   rw [e1,zd]
   refine .inl ?_
   have hins:(∀h:0<k,∀h':k-1<out.length,out[k-1]≠l[i])->∃s',gg l ((i:Int),(k:Int),out)=some (.next s')∧(∃(i:Nat)(out:List Pick),s'=((i:Int),out)∧i<=l.length∧out.length<=i∧out.Pairwise (fun x y=>c9 x y<0)∧∀x,x∈out↔x∈l.take i)∧((l.length:Int)-s'.1).toNat<((l.length:Int)-(i:Int)).toNat:=fun hne=>by
    refine⟨_,k31_eq hlt hl za hk,⟨i+1,_,rfl,za,so,ins_sorted hs hk hlo (fun h h'=>⟨hhi h h',hne h h'⟩),fun x=>?_⟩,zc⟩
    rw [jy hlt,List.mem_append,List.mem_cons,List.mem_append, <-hm x]
    have:x∈out↔x∈out.take k∨x∈out.drop k:=by rw [<-List.mem_append,List.take_append_drop]
    rw [this]
    simp only [List.mem_singleton]
    constructor
    ·rintro(h|h|h)
     ·exact .inl (.inl h)
     ·exact .inr h
     ·exact .inl (.inr h)
    ·rintro((h|h)|h)
     ·exact .inl h
     ·exact .inr (.inr h)
     ·exact .inr (.inl h)
   dsimp only
   by_cases hkl:0<k
   ·rw [if_pos so,w64 (n:=(k:Int)-1) za za,qA za za,gZ (i:=k-1) za za,gZ (i:=i) rfl hlt]
    simp only [zd]
    rw [show(_&&_)=eqF (out[k-1]'za) l[i]from rfl,eqs]
    by_cases he:out[k-1]'za=l[i]
    ·rw [if_pos (by simpa using he),w64 za za]
     refine⟨_,rfl,⟨i+1,out,sm,za,za,hs,fun x=>?_⟩,zc⟩
     rw [jy hlt,List.mem_append, <-hm x,List.mem_singleton]
     refine⟨.inl,fun h=>h.elim id fun h=>?_⟩
     subst h
     rw [<-he]
     exact List.getElem_mem _
    ·rw [if_neg (by simpa using he)]
     exact hins fun _ _=>he
   ·rw [if_neg so]
    exact hins fun h=>(hkl h).elim
  ·rw [if_neg so]
   refine .inr ⟨_,rfl,hs,fun x=>?_⟩
   rw [hm x,List.take_of_length_le za]) (0,[]) ⟨0,[],rfl,Nat.zero_le _,Nat.le_refl _,.nil,fun x=>sm⟩
 refine⟨o,?_,h2,h3⟩
 unfold nX
 rw [h1];rfl
end Go.Dw.Ek
