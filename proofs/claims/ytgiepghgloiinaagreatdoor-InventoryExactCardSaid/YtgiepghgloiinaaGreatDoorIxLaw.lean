
import Derived.Test.YtgiepghgloiinaaGreatDoorIxCo
import Derived.Test.YtgiepghgloiinaaGreatDoorDwPlain
import Derived.Test.YtgiepghgloiinaaGreatDoorDwLift4
import Derived.Test.YtgiepghgloiinaaGreatDoorDwClone
import Derived.Test.YtgiepghgloiinaaGreatDoorDwSort
import Derived.Test.YtgiepghgloiinaaGreatDoorDwOk
set_option linter.unusedVariables false
set_option linter.unusedSimpArgs false
open Int renaming eq_ofNat_of_zero_le->CU, le_refl->CW, le_total->CX, mul_le_mul->CY, neg_tmod->CZ, tmod_lt_of_pos->C0, tmod_nonneg->C1, toNat_natCast->B5
open Go.IntKind renaming wrap->CH
open List renaming all_cons->C2, all_eq_true->C3, any_cons->C4, any_eq_false->C5, any_eq_true->C6, any_map->C7, append_assoc->AE, append_nil->BF, drop->C8, drop_append_of_le_length->C9, drop_eq_getElem_cons->Ca, drop_eq_nil_of_le->Cb, drop_zero->Cc, filter_append->Cd, filter_cons->Ce, find?_some->Cf, getD_eq_getElem?_getD->Bu, getElem?_eq_none->Cg, getElem_mem->Ah, getElem_of_mem->Ch, getElem_take->Ci, length->Cj, length_cons->AY, length_filter_le->Ck, length_nil->AZ, length_set->A0, length_take->Ay, map_append->CA, mem_of_find?_eq_some->Cl, mem_of_mem_drop->A2, mem_of_mem_take->A3, mem_singleton->Bc, pairwise_iff_getElem->Cm, range->AI, range_succ->Cn, range_succ_eq_map->Co, set_append_right->Cp, take->Cq, take_append_drop->Cr, take_append_of_le_length->Cs, take_length->Ct, take_of_length_le->Cu
open Bool renaming and_assoc->Cv, and_eq_true->Ac, and_true->BS, eq_iff_iff->Cw, false_eq_true->Aj, not_true->Cx, true_and->Cy
open Nat renaming add_sub_cancel->Cz, le_refl->AB, le_trans->AO, min_eq_left->As, zero_le->AL

set_option maxRecDepth 100000
set_option maxHeartbeats 4000000
namespace Go.Dw.Ix
open Go.Dw
abbrev Dice:=ae
abbrev Src:=ac
def aV(d:Dice):Prop:=0<=d.fAt∧d.fAt<=d.fL.length∧d.fL.length<=1000000
theorem aT{k:Int}{d:Dice}(hk:1<=k)(o:k<=1000000)(hd:aV d):∃v c,aN k d=some (v,c)∧0<=v∧v<k∧aV c:=by
 obtain⟨f,h1,g⟩:=hd
 unfold aN
 by_cases i:d.fAt>=(d.fL.length:Int)
 ·rw [if_pos (decide_eq_true i)]
  exact⟨0,d,rfl,CW _,om,f,h1,g⟩
 rw [if_neg (by simpa using i),if_neg so]
 have l:jB d.fL d.fAt=some (d.fL[d.fAt.toNat]'om):=by
  unfold jB
  rw [if_pos f,zc]
 rw [l]
 generalize d.fL[d.fAt.toNat]'om=n
 have hw:CH .i64 (d.fAt+1)=d.fAt+1:=IntWalk.i64_in _ om
 have a:aV (ae.mk d.fL (CH .i64 (d.fAt+(1:Int)))):=by
  rw [hw];exact⟨za,za,g⟩
 have p:rb n k=some (n.tmod k):=by unfold rb;rw [if_neg om]
 have hl:n.tmod k<k:=C0 _ om
 have m: -k<n.tmod k:=by
  rcases CX 0 n with h|h
  ·have:=C1 k h;omega
  ·have e:n.tmod k= -((-n).tmod k):=by rw [CZ];omega
   have:=C0 (-n) (show 0<k by omega)
   omega
 simp only [zb,p]
 by_cases j:n.tmod k<0
 ·rw [if_pos (decide_eq_true j)]
  have b:CH .i64 (n.tmod k+k)=n.tmod k+k:=IntWalk.i64_in _ om
  exact⟨_,_,rfl,by rw [b];omega,by rw [b];omega,a⟩
 ·rw [if_neg (by simpa using j)]
  exact⟨_,_,rfl,om,hl,a⟩
theorem ep{α:Type}{l:List α}{n:Int}(a:0<=n)(h1:n<l.length):∃x,x∈l∧jB l n=some x:=by
 refine⟨l[n.toNat]'om,Ah _,?_⟩
 unfold jB
 rw [if_pos a,zc]
def nets:List (List UInt8):=[[71,82],[88],[55,65]]
def stas:List (List UInt8):=[[70,85,82],[65],[65,66,67,68,69],[70,85]]
def locs:List (List UInt8):=[[],[48,48],[49,48]]
def chas:List (List UInt8):=[[72,72,90],[72,72,78],[66,72,90]]
def iL(a:Src):Prop:=a.aD∈nets∧a.aC∈stas∧a.au∈locs∧a.aF∈chas
theorem ji{d:Dice}(hd:aV d):∃a b,cZ d=some (a,b)∧iL a∧aV b:=by
 obtain⟨v1,d1,c,g,u1,hd⟩:=aT (k:=3) om om hd
 obtain⟨v2,d2,e2,i,u2,hd⟩:=aT (k:=4) om om hd
 obtain⟨v3,d3,e,j,n,hd⟩:=aT (k:=3) om om hd
 obtain⟨v4,d4,f,m,o,hd⟩:=aT (k:=3) om om hd
 obtain⟨p,m1,g1⟩:=ep (l:=nets) g u1
 obtain⟨x2,m2,g2⟩:=ep (l:=stas) i u2
 obtain⟨q,m3,g3⟩:=ep (l:=locs) j n
 obtain⟨r,m4,g4⟩:=ep (l:=chas) m o
 unfold nets at g1;unfold stas at g2;unfold locs at g3;unfold chas at g4
 refine⟨⟨p,x2,q,r⟩,d4,?_,⟨m1,m2,m3,m4⟩,hd⟩
 simp only [cZ,c,g1,e2,g2,e,g3,f,g4,zb]
theorem eq_src(a b:Src):((a.aD==b.aD)&&((a.aC==b.aC)&&((a.au==b.au)&&((a.aF==b.aF)&&true))))=decide (a=b):=by
 obtain⟨n,t,l,c⟩:=a
 obtain⟨k,t',j,e⟩:=b
 simp only [ac.mk.injEq]
 by_cases f:n=k<;>by_cases e2:t=t'<;>by_cases g:l=j<;>by_cases i:c=e<;>simp [f,e2,g,i]
theorem roll_ok{t:List Int}(h:t.length<=500):∃d,jg t=some d∧aV d:=⟨⟨t,0⟩,rfl,sm,sm,za⟩
theorem cmp_str(a b:List UInt8):aW a b=some (ly a b):=by
 unfold aW dp
 simp only [beq_self_eq_true,Cx,zb,Aj,if_false]
 unfold ly
 cases h:Op.bytesLess a b with
 |true=>simp
 |false=>by_cases e:a=b<;>simp [e]
theorem gz{l:List Int}{i j:Nat}(b:j=i+1)(hi:i<l.length)(hl:l.length<1000)(a:l[i]=0):a7 l i=some (.next (j:Int)):=by
 subst b
 unfold a7
 rw [if_pos so,dR rfl hi]
 simp only [zb,a,w64 (n:=(i:Int)+1) om om]
 rfl
theorem gA{l:List Int}{i:Nat}(hi:i<l.length)(a:l[i]≠0):a7 l i=some (.stop (.inr l[i])):=by
 unfold a7
 rw [if_pos so,dR rfl hi]
 simp only [zb]
 rw [if_pos (by simpa using a)]
theorem or_end{l:List Int}{n:Nat}(a:n=l.length):a7 l n=some (.stop (.inl ())):=by
 subst a
 unfold a7
 rw [if_neg sm]
theorem or4(a b c d:Int):fJ [a,b,c,d]=some (if a≠0 then a else if b≠0 then b else if c≠0 then c else d):=by
 show((cI (a7 [a,b,c,d]) ((0:Nat):Int)).bind _)=_
 by_cases e:a=0
 ·rw [kI (gz (i:=0) (j:=1) rfl sm sm (by simpa using e)),if_neg (by simpa using e)]
  by_cases hb:b=0
  ·rw [kI (gz (i:=1) (j:=2) rfl sm sm (by simpa using hb)),if_neg (by simpa using hb)]
   by_cases hc:c=0
   ·rw [kI (gz (i:=2) (j:=3) rfl sm sm (by simpa using hc)),if_neg (by simpa using hc)]
    by_cases hd:d=0
    ·rw [kI (gz (i:=3) (j:=4) rfl sm sm (by simpa using hd)),kf (or_end (n:=4) rfl)]
     rw [hd];rfl
    ·rw [kf (gA (i:=3) sm (by simpa using hd))];rfl
   ·rw [kf (gA (i:=2) sm (by simpa using hc)),if_pos hc];rfl
  ·rw [kf (gA (i:=1) sm (by simpa using hb)),if_pos hb];rfl
 ·rw [kf (gA (i:=0) sm (by simpa using e)),if_pos (by simpa using e)];rfl
def bU(a b:Src):Int:=if ly a.aD b.aD≠0 then ly a.aD b.aD else if ly a.aC b.aC≠0 then ly a.aC b.aC else if ly a.au b.au≠0 then ly a.au b.au else ly a.aF b.aF
theorem fI(a b:Src):bv a b=some (bU a b):=by
 unfold bv
 simp only [cmp_str,zb,or4]
 rfl
theorem cJ:Tot bU:=(nd.map fun x:Src=>x.aD).or ((nd.map fun x:Src=>x.aC).or ((nd.map fun x:Src=>x.au).or (nd.map fun x:Src=>x.aF)))
theorem cmpS_zero{a b:Src}(h:bU a b=0):a=b:=by
 unfold bU at h
 obtain⟨n,t,l,c⟩:=a
 obtain⟨i,t',g,j⟩:=b
 simp only at h
 by_cases h1:ly n i=0
 ·rw [if_neg (by simpa using h1)]at h
  by_cases e:ly t t'=0
  ·rw [if_neg (by simpa using e)]at h
   by_cases f:ly l g=0
   ·rw [if_neg (by simpa using f)]at h
    rw [pk]at h h1 e f
    subst h h1 e f;rfl
   ·rw [if_pos f]at h;exact(f h).elim
  ·rw [if_pos e]at h;exact(e h).elim
 ·rw [if_pos h1]at h;exact(h1 h).elim
theorem eqs(a b:Src):((a.aD==b.aD)&&((a.aC==b.aC)&&((a.au==b.au)&&((a.aF==b.aF)&&true))))=decide (a=b):=by
 rw [eq_src]
theorem eH{s:List UInt8}{n:Int}{i:Nat}(a:n=i)(hi:i<s.length):lr s n=some ((s[i].toNat:Nat):Int):=by
 subst a
 unfold lr
 rw [if_pos ⟨om,om⟩,B5,Bu,zc hi];rfl
theorem dX{α:Type}{l:List α}{a b:Int}{i j:Nat}(c:a=i)(hb:b=j)(h1:i<=j)(e:j<=l.length):lP l a b=some ((l.drop i).take (j-i)):=by
 subst c hb
 unfold lP
 rw [if_pos ⟨om,om,om⟩,B5,B5]
theorem jd{a b:List UInt8}(h:a.length+b.length<=9223372036854775807):rY a b=some (a++b):=by
 unfold rY
 rw [if_pos om]
theorem bA{α:Type}{l m:List α}{b:Nat}(h:(l.length+m.length)*b<=140737488355328):lu l m b=some (l++m):=by
 unfold lu
 rw [if_pos h]
theorem cw{α ω:Type}{body:Int->Option (jY Int ω)}(l:List α){p:α->Bool}{u r:ω}(h1:∀(i:Nat)(hi:i<l.length),body i=if p l[i]=true then some (.next ((i+1:Nat):Int))else some (.stop r))
  (c:body (l.length:Nat)=some (.stop u)):cI body (0:Int)=some (if l.all p=true then u else r):=by
 have:∀k i,i+k=l.length->cI body (i:Int)=some (if(l.drop i).all p=true then u else r):=by
  intro k
  induction k with
  |zero=>
   intro i hi
   obtain rfl:i=l.length:=by omega
   rw [kf c];simp
  |succ k e=>
   intro i hi
   have a:i<l.length:=by omega
   rw [Ca a,C2]
   by_cases b:p l[i]=true
   ·rw [kI (by rw [h1 i a,if_pos b]),e (i+1) om,b,Cy]
   ·rw [kf (by rw [h1 i a,if_neg b])];simp [b]
 have:=this l.length 0 om
 simpa using this
theorem ev{ω:Type}{body:Int->Option (jY Int ω)}(n:Nat){q:Nat->Bool}{u:ω}{r:Nat->ω}(h1:∀i,i<n->body i=if q i=true then some (.next ((i+1:Nat):Int))else some (.stop (r i)))
  (c:body (n:Nat)=some (.stop u)):(cI body (0:Int)=some u∧∀i,i<n->q i=true)∨∃i,i<n∧cI body (0:Int)=some (r i)∧q i=false∧∀j,j<i->q j=true:=by
 have:∀k i,i+k=n->(∀j,j<i->q j=true)->(cI body (i:Int)=some u∧∀i,i<n->q i=true)∨∃m,m<n∧cI body (i:Int)=some (r m)∧q m=false∧∀j,j<m->q j=true:=by
  intro k
  induction k with
  |zero=>
   intro i hi a
   obtain rfl:i=n:=by omega
   exact .inl ⟨kf c,a⟩
  |succ k g=>
   intro i hi a
   by_cases b:q i=true
   ·rw [kI (by rw [h1 i om,if_pos b])]
    exact g (i+1) om fun j f=>by
     by_cases e:j=i
     ·subst e;exact b
     ·exact a j om
   ·exact .inr ⟨i,om,kf (by rw [h1 i om,if_neg b]),by simpa using b,a⟩
 exact this n 0 om fun j a=>by omega
theorem io{ω:Type}{body:Int->Option (jY Int ω)}(n:Nat){q:Nat->Bool}{u r:ω}(h1:∀i,i<n->body i=if q i=true then some (.next ((i+1:Nat):Int))else some (.stop r))
  (b:body (n:Nat)=some (.stop u)):cI body (0:Int)=some (if(AI n).all q=true then u else r):=by
 rcases ev n h1 b with⟨h,a⟩|⟨i,hi,h,a, -⟩
 ·rw [h,if_pos (List.all_eq_true.2 fun i hi=>a i (List.mem_range.1 hi))]
 ·rw [h,if_neg (fun c=>by have:=List.all_eq_true.1 c i (List.mem_range.2 hi);rw [a]at this;cases this)]
theorem eu(b c:Bool):(if b=true then some c else some false)=some (b&&c):=by cases b<;>rfl
theorem ea(b:Bool){α:Type}(x y:α):(if(!b)=true then x else y)=if b=true then y else x:=by cases b<;>rfl
def cU(c:UInt8):Bool:=(decide (65<=c.toNat)&&decide (c.toNat<=90))||(decide (48<=c.toNat)&&decide (c.toNat<=57))
theorem dec1(n:Nat):decide ((n:Int)>=65)=decide (65<=n):=decide_eq_decide.2 om
theorem dec2(n:Nat):decide ((n:Int)<=90)=decide (n<=90):=decide_eq_decide.2 om
theorem dec3(n:Nat):decide ((n:Int)>=48)=decide (48<=n):=decide_eq_decide.2 om
theorem dec4(n:Nat):decide ((n:Int)<=57)=decide (n<=57):=decide_eq_decide.2 om
theorem jN(c:UInt8):dH ((c.toNat:Nat):Int)=some (cU c):=by
 unfold dH cU
 rw [dec1,dec2,dec3,dec4]
 cases decide (65<=c.toNat)<;>cases decide (c.toNat<=90)<;>cases decide (48<=c.toNat)<;>simp
def bq(s:List UInt8)(a hi:Int):Bool:=s.all cU&&(decide ((s.length:Int)>=a)&&decide ((s.length:Int)<=hi))
theorem code_l7{s:List UInt8}(a:s.length<=9223372036854775807):cI (cv s) (0:Int)=some (if s.all cU=true then .inl ()else .inr false):=by
 refine cw s (fun i hi=>?_) ?_
 ·unfold cv
  rw [if_pos so,eH rfl hi,w64 om om]
  simp only [zb,jN]
  cases cU s[i]<;>simp
 ·unfold cv
  rw [if_neg sm]
theorem gx{s:List UInt8}(b:s.length<=9223372036854775807)(a hi:Int):cu s a hi=some (bq s a hi):=by
 unfold cu bq
 rw [code_l7 b]
 cases s.all cU with
 |true=>cases decide ((s.length:Int)>=a)<;>simp
 |false=>rfl
theorem iG{s:List UInt8}(a:s.length<=9223372036854775807):cI (cM s) (0:Int)=some (if s.all cU=true then .inl ()else .inr false):=by
 refine cw s (fun i hi=>?_) ?_
 ·unfold cM
  rw [if_pos so,eH rfl hi,w64 om om]
  simp only [zb,dec1,dec2,dec3,dec4]
  unfold cU
  cases decide (65<=s[i].toNat)<;>cases decide (s[i].toNat<=90)<;>cases decide (48<=s[i].toNat)<;>cases decide (s[i].toNat<=57)<;>simp
 ·unfold cM
  rw [if_neg sm]
theorem cE{s:List UInt8}(b:s.length<=9223372036854775807)(a hi:Int):cL s a hi=some (bq s a hi):=by
 unfold cL bq
 rw [iG b]
 cases s.all cU with
 |true=>cases decide ((s.length:Int)>=a)<;>simp
 |false=>rfl
def iM(x:Src):Prop:=x.aD.length<=9223372036854775807∧x.aC.length<=9223372036854775807∧x.au.length<=9223372036854775807∧x.aF.length<=9223372036854775807
def bw(x:Src):Bool:=bq x.aD 1 2&&(bq x.aC 1 5&&(bq x.au 0 2&&(decide (x.au.length≠1)&&bq x.aF 3 3)))
theorem Valid_eq{x:Src}(f:iM x):cC x=some (bw x):=by
 obtain⟨h1,a,b,c⟩:=f
 unfold cC bw
 simp only [gx h1,gx a,gx b,gx c,zb]
 have e:((x.au.length:Int) != 1)=decide (x.au.length≠1):=by
  by_cases h:x.au.length=1
  ·simp [h]
  ·simp [h];omega
 rw [e]
 cases bq x.aD 1 2<;>cases bq x.aC 1 5<;>cases bq x.au 0 2<;>cases decide (x.au.length≠1)<;>simp
theorem loc_eq(s:List UInt8):(bq s 0 2&&decide (s.length≠1))=(decide (s=[])||bq s 2 2):=by
 unfold bq
 match s with
 | []=>simp
 | [a]=>simp
 | [a,b]=>simp
 |a::b::c::r=>
  have h1:decide (((a::b::c::r).length:Int)<=2)=false:=by simp;omega
  rw [h1];simp
theorem gE{x:Src}(f:iM x):du x=some (bw x):=by
 obtain⟨h1,a,b,c⟩:=f
 unfold du bw
 simp only [cE h1,cE a,cE b,cE c,zb]
 rw [<-Cv (bq x.au 0 2),loc_eq]
 by_cases e:x.au=[]
 ·cases bq x.aD 1 2<;>cases bq x.aC 1 5<;>simp [e]
 ·cases bq x.aD 1 2<;>cases bq x.aC 1 5<;>cases bq x.au 2 2<;>simp [e]
theorem eo{s:List UInt8}{a:Int}{hi:Nat}(h:bq s a hi=true):s.length<=hi:=by
 unfold bq at h
 simp only [Ac,decide_eq_true_eq]at h
 omega
theorem valid_len{x:Src}(h:bw x=true):x.aD.length<=2∧x.aC.length<=5∧x.au.length<=2∧x.aF.length<=3:=by
 unfold bw at h
 simp only [Ac]at h
 exact⟨eo (hi:=2) h.1,eo (hi:=5) h.2.1,eo (hi:=2) h.2.2.1,eo (hi:=3) h.2.2.2.2⟩
theorem four{α:Type}{l:List α}(h:l.length=4):∃a b c d,l=[a,b,c,d]:=by
 match l,h with
 | [a,b,c,d],_=>exact⟨a,b,c,d,rfl⟩
theorem getO4{α:Type}(a b c d:α):jB [a,b,c,d] 0=some a∧jB [a,b,c,d] 1=some b∧jB [a,b,c,d] 2=some c∧jB [a,b,c,d] 3=some d:=⟨rfl,rfl,rfl,rfl⟩
def aY:List UInt8->List UInt8->Bool
 | [],s=>s.isEmpty
 |c::p,s=>if c=42 then(AI (s.length+1)).any (fun i=>aY p (s.drop i))else match s with| []=>false|d::t=>(decide (c=63)||decide (c=d))&&aY p t
theorem dx(c:UInt8)(p s:List UInt8):aY (c::p) s=if c=42 then(AI (s.length+1)).any (fun i=>aY p (s.drop i))else match s with| []=>false|d::t=>(decide (c=63)||decide (c=d))&&aY p t:=by
 cases s<;>rfl
theorem e42(c:UInt8):(((c.toNat:Nat):Int)==42)=decide (c=42):=by
 by_cases h:c=42
 ·subst h;rfl
 ·have:c.toNat≠42:=fun e=>h (UInt8.toNat_inj.1 e)
  simp [h];omega
theorem e63(c:UInt8):(((c.toNat:Nat):Int)==63)=decide (c=63):=by
 by_cases h:c=63
 ·subst h;rfl
 ·have:c.toNat≠63:=fun e=>h (UInt8.toNat_inj.1 e)
  simp [h];omega
theorem ecd(c d:UInt8):(((c.toNat:Nat):Int)==((d.toNat:Nat):Int))=decide (c=d):=by
 by_cases h:c=d
 ·subst h;simp
 ·have:c.toNat≠d.toNat:=fun e=>h (UInt8.toNat_inj.1 e)
  simp [h];omega
theorem byte0(c:UInt8)(p:List UInt8):lr (c::p) 0=some ((c.toNat:Nat):Int):=eH (i:=0) rfl sm
theorem cut1(c:UInt8)(p:List UInt8):lP (c::p) 1 (((c::p).length:Nat):Int)=some p:=by
 have:=dX (l:=c::p) (a:=1) (b:=(((c::p).length:Nat):Int)) (i:=1) (j:=(c::p).length) rfl rfl sm (AB _)
 rw [this]
 simp
theorem fitsN_eq:∀(n:Nat)(p s:List UInt8),p.length+s.length<n->bh n p s=some (aY p s):=by
 intro n
 induction n with
 |zero=>intro p s h;omega
 |succ n e=>
  intro p s h
  unfold bh
  match p with
  | []=>cases s<;>simp [aY]
  |c::p=>
   rw [if_neg sm,byte0,cut1]
   simp only [zb,e42,e63]
   simp only [AY]at h
   by_cases h1:c=42
   ·rw [if_pos (by simpa using h1),e p s om,zb]
    have hf:aY (c::p) s=(AI (s.length+1)).any (fun i=>aY p (s.drop i)):=by rw [dx,if_pos h1]
    match s with
    | []=>rw [hf];cases a:aY p []<;>simp [a,Cn]
    |d::t=>
     have e2:bh n (c::p) t=some (aY (c::p) t):=e (c::p) t (by simp at h⊢;omega)
     have b:aY (c::p) t=(AI (t.length+1)).any (fun i=>aY p (t.drop i)):=by rw [dx,if_pos h1]
     rw [cut1 d t,hf,AY,Co (n:=t.length+1),C4,C7,Cc]
     cases f:aY p (d::t)with
     |true=>simp
     |false=>
      rw [if_neg sm,if_pos sm,zb,e2,zb,b]
      simp [Function.comp_def]
   ·rw [if_neg (by simpa using h1)]
    match s with
    | []=>simp [aY,h1]
    |d::t=>
     rw [if_pos sm,cut1,byte0]
     simp only [zb,ecd,e p t (by simp at h⊢;omega)]
     have hf:aY (c::p) (d::t)=((decide (c=63)||decide (c=d))&&aY p t):=by rw [dx,if_neg h1]
     rw [hf]
     by_cases a:c=63<;>by_cases f:c=d<;>simp [a,f]
theorem fits_eq(p s:List UInt8):df p s=some (aY p s):=Le.tw (fun n=>gu n p s) (p.length+s.length+1) _ (fitsN_eq _ p s om)
def dB(a b c d:List UInt8)(x:Src):Bool:=aY a x.aD&&(aY b x.aC&&(aY c x.au&&aY d x.aF))
theorem match_eq(a b c d:List UInt8)(x:Src):eA [a,b,c,d] x=some (dB a b c d x):=by
 obtain⟨g0,g1,g2,g3⟩:=getO4 a b c d
 unfold eA gG dB
 simp only [g0,g1,g2,g3,zb,fits_eq]
 cases aY a x.aD<;>cases aY b x.aC<;>cases aY c x.au<;>cases aY d x.aF<;>rfl
end Go.Dw.Ix
set_option maxRecDepth 100000
set_option maxHeartbeats 4000000
namespace Go.Dw.Ix
open Go.Dw
abbrev Stage:=ak
abbrev Resp:=ar
abbrev Epoch:=ah
abbrev Chan:=aa
def inB(a b hi:Int):Bool:=decide (a>=b)&&decide (a<=hi)
theorem rin_eq(a b c:Int):iD a b c=some (inB a b c):=by unfold iD inB;rw [eu]
theorem pin_eq(a b c:Int):aU a b c=some (inB a b c):=rin_eq a b c
theorem iin_eq(a b c:Int):cm a b c=some (inB a b c):=rin_eq a b c
theorem In_eq(a b c:Int):bn a b c=some (inB a b c):=rin_eq a b c
theorem gcd_ok(a b:Int):∃g,gO a b=some g:=by
 obtain ⟨o, h, -⟩ := kY (body := hJ) (fun _ => True) (fun s => s.2.natAbs) (fun _ => True) (by
  rintro⟨x,y⟩-
  unfold hJ
  by_cases c:y=0
  ·exact .inr ⟨x,by simp [c],trivial⟩
  ·refine .inl ⟨(y,x.tmod y),?_,trivial,?_⟩
   ·have:(y != 0)=true:=by simpa using c
    simp only [this,if_true]
    unfold rb
    rw [if_neg c];rfl
   ·simp only [Int.natAbs_tmod]
    exact Nat.mod_lt _ om) (a,b) trivial
 exact⟨o,by unfold gO;rw [h];rfl⟩
noncomputable def vR (r:av):Bool:=inB r.aI 1 4096&&(inB r.aH 1 4096&&((gO r.aI r.aH).getD 0==1))
theorem vR_eq(r:av):fM r=some (vR r):=by
 obtain⟨g,a⟩:=gcd_ok r.aI r.aH
 unfold fM vR
 simp only [rin_eq,zb,a,eu,Option.getD_some]
theorem ref_vR_eq(r:av):iW r=some (vR r):=vR_eq r
def jb(l:List Int):Bool:=l.all fun x=>inB x (-1048576) 1048576
theorem terms_eq{l:List Int}(hl:l.length<=17592186044416):bM l=some (jb l):=by
 unfold bM bt bI
 have := ev (body := bu l) l.length (q := fun i => inB (l.getD i 0) (-1048576) 1048576) (u := .inl ()) (r := fun i => .inr (i : Int)) (fun i hi => by
  unfold bu eC
  rw [if_pos so,dR rfl hi,w64 om om]
  simp only [zb,pin_eq,Bu,zc hi,Option.getD_some,ea]
  rfl) (by
  unfold bu
  rw [if_neg sm])
 rcases this with⟨h,a⟩|⟨i,hi,h,a, -⟩
 ·rw [h]
  have:jb l=true:=List.all_eq_true.2 fun x b=>by
   obtain⟨i,hi,rfl⟩:=Ch b
   have:=a i hi
   simpa [Bu,zc hi]using this
  rw [this];rfl
 ·rw [h]
  have : jb l = false := List.all_eq_false.2 ⟨l[i], Ah hi, by
   simpa [Bu,zc hi]using a⟩
  rw [this]
  simp only [zb]
  rw [show decide ((i:Int)>=0)=true by simp];rfl
theorem iI{l:List Int}(hl:l.length<=17592186044416):dv l=some (jb l):=by
 unfold dv
 rw [cw (body := fr l) l (p := fun x => inB x (-1048576) 1048576) (u := .inl ()) (r := .inr false) (fun i hi => by
  unfold fr
  rw [if_pos so,dR rfl hi,w64 om om]
  simp only [zb,In_eq,ea]
  rfl) (by
  unfold fr
  rw [if_neg sm])]
 unfold jb
 cases l.all fun x=>inB x (-1048576) 1048576<;>rfl
theorem sum_ok{l:List Int}(hl:l.length<=17592186044416):∃g,co l=some g:=by
 obtain ⟨o, h, -⟩ := kY (body := eT l) (fun s => ∃ i : Nat, s.2 = (i : Int) ∧ i ≤ l.length) (fun s => ((l.length : Int) - s.2).toNat) (fun _ => True) (by
  rintro⟨x,y⟩ ⟨i,b,hi⟩
  simp only at b
  subst b
  unfold eT
  by_cases a:i<l.length
  ·refine .inl ⟨(CH .i64 (x+l[i]),((i+1:Nat):Int)),?_,⟨i+1,rfl,om⟩,za⟩
   simp only
   rw [if_pos so,dR rfl a,w64 (n:=(i:Int)+1) om om];rfl
  ·exact .inr ⟨x,by simp only;rw [if_neg so],trivial⟩) (0,0) ⟨0,rfl,AL _⟩
 exact⟨o,by unfold co;rw [h];rfl⟩
noncomputable def sumB (l:List Int):Int:=(co l).getD 0
theorem sum_eq{l:List Int}(hl:l.length<=17592186044416):co l=some (sumB l):=by
 obtain⟨g,a⟩:=sum_ok hl
 unfold sumB;rw [a];rfl
theorem ref_sum_eq{l:List Int}(hl:l.length<=17592186044416):gf l=some (sumB l):=sum_eq hl
noncomputable def vS (s:Stage):Bool:=
 if s.aQ=0 then decide (s.aO=[])&&(s.aJ==0)&&(s.aS==0)&&inB s.aI.a0 1 1048576&&inB s.aH.a0 1 1048576&&(s.aI.a1==0)&&(s.aI.a2==0)&&(s.aH.a1==0)&&(s.aH.a2==0)
 else if s.aQ=1 then decide (s.aO=[])&&(s.aJ==0)&&(s.aS==0)&&jb [s.aI.a0,s.aI.a1,s.aI.a2]&&jb [s.aH.a0,s.aH.a1,s.aH.a2]&&(s.aH.a0 != 0)
 else if s.aQ=2 then(s.aI.a0==0)&&(s.aI.a1==0)&&(s.aI.a2==0)&&(s.aH.a0==0)&&(s.aH.a1==0)&&(s.aH.a2==0)&&inB s.aO.length 1 128&&jb s.aO&&(sumB s.aO != 0)&&inB s.aJ 1 64&&inB s.aS 0 40
 else false
theorem len0{α:Type} [DecidableEq α] (l:List α):((l.length:Int)==0)=decide (l=[]):=by
 cases l with
 |nil=>rfl
 |cons a l=>simp;omega
theorem vS_eq{s:Stage}(hl:s.aO.length<=17592186044416):b9 s=some (vS s):=by
 unfold b9 vS
 simp only [pin_eq,terms_eq hl,terms_eq (l:=[s.aI.a0,s.aI.a1,s.aI.a2]) sm,terms_eq (l:=[s.aH.a0,s.aH.a1,s.aH.a2]) sm,sum_eq hl,zb,eu,len0]
 by_cases a:s.aQ=0
 ·rw [if_pos a]
  simp only [a,beq_self_eq_true,if_true,eu]
  cases decide (s.aO=[])<;>cases s.aJ==0<;>simp<;>cases s.aS==0<;>simp [Cv,Bool.and_comm,Bool.and_left_comm]
 rw [if_neg a]
 have c:(s.aQ==0)=false:=by simpa using a
 by_cases h1:s.aQ=1
 ·rw [if_pos h1]
  simp only [h1,beq_self_eq_true,if_true,eu]
  cases decide (s.aO=[])<;>cases s.aJ==0<;>simp [Cv]
 rw [if_neg h1]
 have e:(s.aQ==1)=false:=by simpa using h1
 by_cases b:s.aQ=2
 ·rw [if_pos b]
  simp only [b,beq_self_eq_true,if_true,eu]
  cases decide (s.aO=[])<;>cases s.aJ==0<;>simp [Cv]
 rw [if_neg b]
 have e2:(s.aQ==2)=false:=by simpa using b
 simp only [c,e,e2]
 cases decide (s.aO=[])<;>cases s.aJ==0<;>simp
theorem ref_vS_eq{s:Stage}(hl:s.aO.length<=17592186044416):ey s=some (vS s):=by
 unfold ey vS
 simp only [In_eq,iI hl,iI (l:=[s.aI.a0,s.aI.a1,s.aI.a2]) sm,iI (l:=[s.aH.a0,s.aH.a1,s.aH.a2]) sm,ref_sum_eq hl,zb,eu,len0]
 by_cases a:s.aQ=0
 ·rw [if_pos a]
  simp only [a,beq_self_eq_true,if_true,eu]
  cases decide (s.aO=[])<;>cases s.aJ==0<;>simp [Cv]
 rw [if_neg a]
 have c:(s.aQ==0)=false:=by simpa using a
 by_cases h1:s.aQ=1
 ·rw [if_pos h1]
  simp only [h1,beq_self_eq_true,if_true,eu]
  cases decide (s.aO=[])<;>cases s.aJ==0<;>simp [Cv]
 rw [if_neg h1]
 have e:(s.aQ==1)=false:=by simpa using h1
 by_cases b:s.aQ=2
 ·rw [if_pos b]
  simp only [b,beq_self_eq_true,if_true,eu]
  cases decide (s.aO=[])<;>cases s.aJ==0<;>simp [Cv]
 rw [if_neg b]
 have e2:(s.aQ==2)=false:=by simpa using b
 simp only [c,e,e2]
 cases decide (s.aO=[])<;>cases s.aJ==0<;>simp
end Go.Dw.Ix
set_option maxRecDepth 100000
set_option maxHeartbeats 4000000
namespace Go.Dw.Ix
open Go.Dw
def eX:Int->List Stage->Bool
 |_,[]=>true
 |p,s::r=>if s.aQ=2 then decide (p*s.aJ<=64)&&eX (p*s.aJ) r else eX p r
theorem prodOk_cons(p:Int)(s:Stage)(r:List Stage):eX p (s::r)=if s.aQ=2 then decide (p*s.aJ<=64)&&eX (p*s.aJ) r else eX p r:=rfl
noncomputable def vP (r:Resp):Bool:=decide (r.aA.length<=8)&&(r.aA.all vS&&eX 1 r.aA)
def ROk(r:Resp):Prop:=r.aA.length<=4000000000∧∀s∈r.aA,s.aO.length<=17592186044416
theorem vS_factor{s:Stage}(h:vS s=true)(hk:s.aQ=2):1<=s.aJ∧s.aJ<=64:=by
 unfold vS at h
 rw [if_neg om,if_neg om,if_pos hk]at h
 simp only [Ac,inB,decide_eq_true_eq]at h
 omega
theorem allv_eq{r:Resp}(b:ROk r):aZ r.aA=some (!(r.aA.all vS)):=by
 obtain⟨hl,ht⟩:=b
 generalize r.aA=l at*
 unfold aZ bC
 have := ev (body := a6 l) l.length (q := fun i => match l[i]? with | some s => vS s | none => true) (u := .inl ()) (r := fun i => .inr (i : Int)) (fun i hi => by
  unfold a6 cz
  rw [if_pos so,dR rfl hi,w64 om om]
  simp only [zb,vS_eq (ht _ (Ah hi)),zc hi,ea]
  rfl) (by
  unfold a6
  rw [if_neg sm])
 rcases this with⟨h,a⟩|⟨i,hi,h,a, -⟩
 ·rw [h]
  have:l.all vS=true:=List.all_eq_true.2 fun x c=>by
   obtain⟨i,hi,rfl⟩:=Ch c
   have:=a i hi
   simpa [zc hi]using this
  rw [this];rfl
 ·rw [h]
  have : l.all vS = false := List.all_eq_false.2 ⟨l[i], Ah hi, by
   simpa [zc hi]using a⟩
  rw [this]
  simp only [zb]
  rw [show decide ((i:Int)>=0)=true by simp];rfl
theorem factor_eq{r:Resp}(k:ROk r)(m:r.aA.all vS=true):∃p,cX r.aA=some p∧(decide (p>0)=eX 1 r.aA):=by
 obtain⟨hl,ht⟩:=k
 generalize r.aA=l at*
 obtain⟨o,h,c⟩:=kY (body:=dE l) (fun s=>∃i:Nat,s.2=(i:Int)∧i<=l.length∧1<=s.1∧s.1<=64∧eX 1 l=eX s.1 (l.drop i)) (fun s=>((l.length:Int)-s.2).toNat)
  (fun o => match o with | .inl y => 0 < y ∧ eX 1 l = true | .inr y => y = 0 ∧ eX 1 l = false) (by
  rintro⟨x,y⟩ ⟨i,j,hi,h1,e,a⟩
  simp only at j h1 e a
  subst j
  unfold dE
  simp only
  by_cases b:i<l.length
  ·rw [if_pos so,dR rfl b,zb,w64 (n:=(i:Int)+1) om om]
   rw [Ca b,prodOk_cons]at a
   have g:vS l[i]=true:=List.all_eq_true.1 m _ (Ah b)
   by_cases hk:l[i].aQ=2
   ·rw [if_neg (by simpa using hk)]
    rw [if_pos hk]at a
    obtain⟨f1,f2⟩:=vS_factor g hk
    have m1:1<=x*l[i].aJ:=by have:=CY h1 f1 om om;omega
    have m2:x*l[i].aJ<=64*64:=CY e f2 om om
    rw [w64 (n:=x*l[i].aJ) om om]
    by_cases f:x*l[i].aJ<=64
    ·rw [if_neg so]
     refine .inl ⟨_,rfl,⟨i+1,rfl,om,m1,f,?_⟩,za⟩
     rw [a];simp [f]
    ·rw [if_pos so]
     refine .inr ⟨_,rfl,rfl,?_⟩
     rw [a];simp [f]
   ·rw [if_pos (by simpa using hk)]
    rw [if_neg hk]at a
    exact .inl ⟨_,rfl,⟨i+1,rfl,om,h1,e,a⟩,za⟩
  ·rw [if_neg so]
   refine .inr ⟨_,rfl,om,?_⟩
   rw [a,Cb om];rfl) (1,0) ⟨0,rfl,AL _,za,za,rfl⟩
 unfold cX
 rw [h]
 rcases o with y|y
 ·exact⟨y,rfl,by rw [c.2];simpa using c.1⟩
 ·exact⟨y,rfl,by rw [c.2,c.1];rfl⟩
theorem vP_eq{r:Resp}(b:ROk r):dt r=some (vP r):=by
 unfold dt vP
 by_cases a:r.aA.length<=8
 ·rw [if_neg so,allv_eq b,zb]
  cases e:r.aA.all vS with
  |false=>simp
  |true=>
   obtain⟨p,h1,c⟩:=factor_eq b e
   rw [if_neg sm,h1,zb,c];simp [a]
 ·rw [if_pos so];simp [a]
theorem ref_vP_eq{r:Resp}(l:ROk r):hZ r=some (vP r):=by
 obtain⟨hl,ht⟩:=l
 obtain⟨o,h,f⟩:=kY (body:=gn r) (fun s=>∃i:Nat,s.2=(i:Int)∧i<=r.aA.length∧1<=s.1∧s.1<=64∧(r.aA.all vS&&eX 1 r.aA)=((r.aA.drop i).all vS&&eX s.1 (r.aA.drop i))) (fun s=>((r.aA.length:Int)-s.2).toNat)
  (fun o => match o with | .inl _ => (r.aA.all vS && eX 1 r.aA) = true | .inr y => y = false ∧ (r.aA.all vS && eX 1 r.aA) = false) (by
  rintro⟨x,y⟩ ⟨i,k,hi,h1,g,a⟩
  simp only at k h1 g a
  subst k
  unfold gn
  simp only
  by_cases b:i<r.aA.length
  ·rw [if_pos so,dR rfl b,w64 (n:=(i:Int)+1) om om]
   simp only [zb,ref_vS_eq (ht _ (Ah b)),ea]
   rw [Ca b,C2,prodOk_cons]at a
   cases c:vS r.aA[i]with
   |false=>rw [c]at a;exact .inr ⟨.inr false,sm,rfl,by rw [a];rfl⟩
   |true=>
   rw [c,Cy]at a
   simp only [if_true]
   by_cases hk:r.aA[i].aQ=2
   ·rw [if_pos (by simpa using hk)]
    rw [if_pos hk]at a
    obtain⟨f1,f2⟩:=vS_factor c hk
    have m1:1<=x*r.aA[i].aJ:=by have:=CY h1 f1 om om;omega
    have m2:x*r.aA[i].aJ<=64*64:=CY g f2 om om
    rw [w64 (n:=x*r.aA[i].aJ) om om]
    by_cases j:x*r.aA[i].aJ<=64
    ·rw [if_neg so]
     refine .inl ⟨_,rfl,⟨i+1,rfl,om,m1,j,?_⟩,za⟩
     rw [a];simp [j]
    ·rw [if_pos so]
     refine .inr ⟨_,rfl,rfl,?_⟩
     rw [a];simp [j]
   ·rw [if_neg (by simpa using hk)]
    rw [if_neg hk]at a
    exact .inl ⟨_,rfl,⟨i+1,rfl,om,h1,g,a⟩,za⟩
  ·rw [if_neg so]
   refine .inr ⟨_,rfl,?_⟩
   simp only
   rw [a,Cb om];rfl) (1,0) ⟨0,rfl,AL _,za,za,rfl⟩
 unfold hZ vP
 rw [h,zb]
 have e:decide ((r.aA.length:Int)<=8)=decide (r.aA.length<=8):=decide_eq_decide.2 om
 rcases o with y|y
 ·simp only at f
  rw [f,e,BS]
 ·rw [f.2,f.1];simp
noncomputable def vE (e:Epoch):Bool:=decide (e.az>=0)&&(decide (e.az<e.fTo)&&(decide (e.fTo<=9007199254740992)&&(vR e.aM&&(vP e.aB&&(inB e.aq.fX (-1048576) 1048576&&(inB e.aq.fY (-1048576) 1048576&&inB e.aq.fZ (-16384) 1048576))))))
theorem vE_eq{e:Epoch}(he:ROk e.aB):bD e=some (vE e):=by
 unfold bD vE
 simp only [vR_eq,vP_eq he,iin_eq,zb,eu]
theorem ref_vE_eq{e:Epoch}(he:ROk e.aB):cH e=some (vE e):=by
 unfold cH vE
 simp only [ref_vR_eq,ref_vP_eq he,In_eq,zb,eu]
def EOk(l:List Epoch):Prop:=l.length<=4000000000∧∀e∈l,ROk e.aB
noncomputable def iu (l:List Epoch) (i:Nat):Bool:=match l[i]? with
 |some e=>vE e&&(decide (i=0)||match l[i-1]? with|some p=>decide (p.fTo<=e.az)|none=>true)
 |none=>true
noncomputable def vEs (l:List Epoch):Bool:=(AI l.length).all (iu l)&&inB l.length 1 32
theorem stepE_0{l:List Epoch}(h:0<l.length):iu l 0=vE l[0]:=by
 unfold iu;rw [zc h];simp
theorem jW{l:List Epoch}{i:Nat}(h:i+1<l.length):iu l (i+1)=(vE l[i+1]&&decide (l[i].fTo<=l[i+1].az)):=by
 unfold iu;rw [zc h]
 simp only [Cz,zc (show i<l.length by omega)]
 simp
theorem epochs_loop{l:List Epoch}(hl:EOk l):cI (bQ l) (0:Int)=some (if(AI l.length).all (iu l)=true then .inl ()else .inr false):=by
 obtain⟨hl,ht⟩:=hl
 refine io l.length (fun i hi=>?_) ?_
 ·unfold bQ
  rw [if_pos so,dR rfl hi,w64 (n:=(i:Int)+1) om om]
  simp only [zb,vE_eq (ht _ (Ah hi)),ea]
  match i,hi with
  |0,hi=>
   rw [stepE_0 hi,if_neg (c:=decide (((0:Nat):Int)>0)=true) sm];rfl
  |i+1,hi=>
   rw [jW hi,if_pos (c:=decide (((i+1:Nat):Int)>0)=true) (decide_eq_true om),w64 om om,dR (i:=i) om om,zb]
   cases vE l[i+1]with
   |false=>simp
   |true=>
    by_cases h:l[i].fTo<=l[i+1].az
    ·rw [if_neg (c:=decide (l[i+1].az<l[i].fTo)=true) so];simp [h]
    ·rw [if_pos (c:=decide (l[i+1].az<l[i].fTo)=true) so];simp [h]
 ·unfold bQ
  rw [if_neg sm]
theorem epochs_eq{l:List Epoch}(hl:EOk l):cG l=some (vEs l):=by
 unfold cG vEs
 rw [epochs_loop hl,zb]
 cases(AI l.length).all (iu l)with
 |true=>simp only [if_true,iin_eq,zb,Cy]
 |false=>rfl
theorem ref_epochs_loop{c:Chan}(hl:EOk c.al)(s:Int):cI (eR c s) (0:Int)=some (if(AI c.al.length).all (iu c.al)=true then .inl s else .inr false):=by
 obtain⟨hl,ht⟩:=hl
 refine io c.al.length (fun i hi=>?_) ?_
 ·unfold eR
  rw [if_pos so,dR rfl hi,w64 (n:=(i:Int)+1) om om]
  simp only [zb,ref_vE_eq (ht _ (Ah hi)),ea]
  match i,hi with
  |0,hi=>
   rw [stepE_0 hi,if_neg (c:=decide (((0:Nat):Int)>0)=true) sm];rfl
  |i+1,hi=>
   rw [jW hi,if_pos (c:=decide (((i+1:Nat):Int)>0)=true) (decide_eq_true om),w64 om om,dR (i:=i) om om,zb]
   cases vE c.al[i+1]with
   |false=>simp
   |true=>
    by_cases h:c.al[i].fTo<=c.al[i+1].az
    ·rw [if_neg (c:=decide (c.al[i+1].az<c.al[i].fTo)=true) so];simp [h]
    ·rw [if_pos (c:=decide (c.al[i+1].az<c.al[i].fTo)=true) so];simp [h]
 ·unfold eR
  rw [if_neg sm]
theorem ref_cmp(a b:List UInt8):cn a b=some (ly a b):=by
 unfold cn ly
 cases h:Op.bytesLess a b with
 |true=>simp
 |false=>by_cases e:a=b<;>simp [e]
theorem gY(a b:Src):dg a b=some (bU a b):=by
 unfold dg bU
 simp only [ref_cmp,zb,bne_iff_ne,ne_eq]
 by_cases h1:ly a.aD b.aD=0<;>by_cases c:ly a.aC b.aC=0<;>by_cases e:ly a.au b.au=0<;>by_cases f:ly a.aF b.aF=0<;>simp [h1,c,e,f]
def COk(c:Chan):Prop:=iM c.aj∧EOk c.al
def IOk(l:List Chan):Prop:=l.length<=4000000000∧∀c∈l,COk c
noncomputable def ja (l:List Chan) (i:Nat):Bool:=match l[i]? with
 |some c=>bw c.aj&&vEs c.al&&(decide (i=0)||match l[i-1]? with|some p=>decide (bU p.aj c.aj<0)|none=>true)
 |none=>true
noncomputable def vI (l:List Chan):Bool:=(AI l.length).all (ja l)&&decide (l.length<=128)
theorem stepI_0{l:List Chan}(h:0<l.length):ja l 0=(bw l[0].aj&&vEs l[0].al):=by
 unfold ja;rw [zc h];simp
theorem jX{l:List Chan}{i:Nat}(h:i+1<l.length):ja l (i+1)=(bw l[i+1].aj&&vEs l[i+1].al&&decide (bU l[i].aj l[i+1].aj<0)):=by
 unfold ja;rw [zc h]
 simp only [Cz,zc (show i<l.length by omega)]
 simp
theorem vI_eq{l:List Chan}(hl:IOk l):bg ⟨l⟩=some (vI l):=by
 obtain⟨hl,hc⟩:=hl
 unfold bg vI
 rw [io (body := b8 ⟨l⟩) l.length (q := ja l) (u := .inl ()) (r := .inr false) (fun i hi => by
  unfold b8
  simp only
  rw [if_pos so,dR rfl hi,w64 (n:=(i:Int)+1) om om]
  simp only [zb,Valid_eq (hc _ (Ah hi)).1,epochs_eq (hc _ (Ah hi)).2,fI,ea]
  match i,hi with
  |0,hi=>
   rw [stepI_0 hi,if_neg (c:=decide (((0:Nat):Int)>0)=true) sm]
   cases bw l[0].aj<;>cases vEs l[0].al<;>simp
  |i+1,hi=>
   rw [jX hi,if_pos (c:=decide (((i+1:Nat):Int)>0)=true) (decide_eq_true om),w64 om om,dR (i:=i) om om]
   simp only [zb]
   cases bw l[i+1].aj with
   |false=>simp
   |true=>
    cases vEs l[i+1].al with
    |false=>simp
    |true=>
     by_cases h:bU l[i].aj l[i+1].aj<0
     ·rw [if_neg (c:=decide (bU l[i].aj l[i+1].aj>=0)=true) so];simp [h]
     ·rw [if_pos (c:=decide (bU l[i].aj l[i+1].aj>=0)=true) so];simp [h]) (by
  unfold b8
  rw [if_neg sm]),zb]
 have e:decide ((l.length:Int)<=128)=decide (l.length<=128):=decide_eq_decide.2 om
 cases(AI l.length).all (ja l)with
 |true=>simp [e]
 |false=>rfl
theorem ir{l:List Chan}(hl:IOk l):dw ⟨l⟩=some (vI l):=by
 obtain⟨hl,hc⟩:=hl
 unfold dw vI
 rw [io (body := eS ⟨l⟩) l.length (q := ja l) (u := .inl ()) (r := .inr false) (fun i hi => by
  unfold eS eQ
  simp only
  rw [if_pos so,dR rfl hi]
  simp only [zb,gE (hc _ (Ah hi)).1,ref_epochs_loop (hc _ (Ah hi)).2,gY,In_eq,ea]
  have he:∀c:Chan,vEs c.al=((AI c.al.length).all (iu c.al)&&inB c.al.length 1 32):=fun _=>rfl
  match i,hi with
  |0,hi=>
   rw [stepI_0 hi,if_neg (c:=decide (((0:Nat):Int)>0)=true) sm,he]
   cases bw l[0].aj<;>cases inB l[0].al.length 1 32<;>cases(AI l[0].al.length).all (iu l[0].al)<;>simp<;>rfl
  |i+1,hi=>
   rw [jX hi,if_pos (c:=decide (((i+1:Nat):Int)>0)=true) (decide_eq_true om),w64 (n:=((i+1:Nat):Int)-1) om om,dR (i:=i) om om,he]
   have hw:∀j:Int,j=((i+1:Nat):Int)->CH .i64 (j+1)=((i+1+1:Nat):Int):=fun j a=>by subst a;exact w64 om om
   simp only [zb]
   by_cases h:bU l[i].aj l[i+1].aj<0
   ·rw [if_neg (c:=decide (bU l[i].aj l[i+1].aj>=0)=true) so]
    cases bw l[i+1].aj<;>cases inB l[i+1].al.length 1 32<;>cases(AI l[i+1].al.length).all (iu l[i+1].al)<;>simp only [Cy,BS,Bool.false_and,Bool.and_false,if_true,Aj,if_false,h,decide_true,hw _ rfl]
   ·rw [if_pos (c:=decide (bU l[i].aj l[i+1].aj>=0)=true) so]
    cases bw l[i+1].aj<;>simp [h]) (by
  unfold eS
  rw [if_neg sm]),zb]
 have e:decide ((l.length:Int)<=128)=decide (l.length<=128):=decide_eq_decide.2 om
 cases(AI l.length).all (ja l)with
 |true=>simp [e]
 |false=>rfl
end Go.Dw.Ix
set_option maxRecDepth 100000
set_option maxHeartbeats 4000000
namespace Go.Dw.Ix
open Go.Dw
theorem dK{σ ω:Type}{body:σ->Option (jY σ ω)}(n:Nat)(st:Nat->σ){r:ω}(h1:∀i,i<n->body (st i)=some (.next (st (i+1))))(a:body (st n)=some (.stop r)):cI body (st 0)=some r:=by
 have:∀k i,i+k=n->cI body (st i)=some r:=by
  intro k
  induction k with
  |zero=>
       intro i hi;obtain rfl:i=n:=by omega
       exact kf a
  |succ k b=>intro i hi;rw [kI (h1 i om)];exact b (i+1) om
 exact this n 0 om
theorem iB{α:Type}{l:List α}{n:Int}{i:Nat}{f:α->α}(a:n=i)(hi:i<l.length):oT l n f=some (l.set i (f l[i])):=by
 subst a
 unfold oT
 rw [if_pos om,B5,zc hi]
theorem copy18{r:Resp}(a:ROk r):gP r=some r:=by
 obtain⟨hl,ht⟩:=a
 have : cI (eK r) ((0 : Int), ([] : List Stage)) = some r.aA := dK (body := eK r) r.aA.length (fun i => ((i : Int), r.aA.take i)) (fun i hi => by
  have b:=ht _ (Ah hi)
  unfold eK
  simp only
  rw [if_pos (decide_eq_true om),dR rfl hi,zb,bA so,zb,bA so,zb,w64 om om,kK hi]
  rfl) (by
  unfold eK
  simp only
  rw [if_neg sm,Ct])
 unfold gP
 rw [this];rfl
theorem copyE{e:Epoch}(he:ROk e.aB):cx e=some e:=by
 unfold cx
 rw [copy18 he];rfl
theorem copyC{l:List Chan}(hl:IOk l){k:Nat}(hk:k<l.length)(s2:List Chan):cI (cN ⟨l⟩ (k:Int) s2) ((0:Int),([]:List Epoch))=some ((k:Int),s2,l[k].al):=by
 obtain⟨he,a⟩:=(hl.2 _ (Ah hk)).2
 exact dK (body := cN ⟨l⟩ (k : Int) s2) l[k].al.length (fun i => ((i : Int), l[k].al.take i)) (fun i hi => by
  unfold cN
  simp only
  rw [dR rfl hk]
  simp only [zb]
  rw [if_pos (decide_eq_true om),dR rfl hi,zb,copyE (a _ (Ah hi)),zb,bA so,zb,w64 om om,kK hi]
  rfl) (by
  unfold cN
  simp only
  rw [dR rfl hk]
  simp only [zb]
  rw [if_neg sm,Ct])
theorem copyI{l:List Chan}(hl:IOk l):eZ ⟨l⟩=some ⟨l⟩:=by
 have a:=hl.1
 have : cI (ef ⟨l⟩) ((0 : Int), ([] : List Chan)) = some l := dK (body := ef ⟨l⟩) l.length (fun i => ((i : Int), l.take i)) (fun i hi => by
  unfold ef
  simp only
  rw [if_pos (decide_eq_true om),dR rfl hi,zb,copyC hl hi,zb]
  simp only
  rw [bA so,zb,w64 om om,kK hi]
  rfl) (by
  unfold ef
  simp only
  rw [if_neg sm,Ct])
 unfold eZ
 rw [this];rfl
theorem place_in{l:List Chan}{c:aG}{k:Nat}(hk:k<l.length)(he:l[k].al.length<=4000000000):
  cI (cW ⟨l⟩ (k:Int) c) (0:Int)=some (.inl (k:Int))∨∃m:Nat,m<l[k].al.length∧cI (cW ⟨l⟩ (k:Int) c) (0:Int)=some (.inr ((k:Int),(m:Int))):=by
 rcases ev (body := cW ⟨l⟩ (k : Int) c) l[k].al.length (q := fun i => match l[k].al[i]? with | some e => !(e.az == c.az) | none => true) (u := .inl (k : Int)) (r := fun i => .inr ((k : Int), (i : Int))) (fun i hi => by
  unfold cW
  simp only [dR (l:=l) (i:=k) rfl hk,zb]
  rw [if_pos (decide_eq_true om),dR rfl hi,w64 om om]
  simp only [zb,zc hi,ea]
  rfl) (by
  unfold cW
  simp only [dR (l:=l) (i:=k) rfl hk,zb]
  rw [if_neg sm])with⟨h, -⟩|⟨m,hm,h, -⟩
 ·exact .inl h
 ·exact .inr ⟨m,hm,h⟩
theorem place_eq{l:List Chan}(hl:l.length<=4000000000)(he:∀x∈l,x.al.length<=4000000000)(c:aG):
  ∃i j,ic ⟨l⟩ c=some (i,j)∧((i= -1∧j= -1∧∀x∈l,x.aj≠c.aj)∨∃k,∃hk:k<l.length,i=(k:Int)∧l[k].aj=c.aj∧(j= -1∨∃m:Nat,m<l[k].al.length∧j=(m:Int))):=by
 obtain⟨o,h,p⟩:=kY (body:=gp ⟨l⟩ c) (fun s:Int=>∃i:Nat,s=(i:Int)∧i<=l.length∧∀j,(h:j<i)->(r:j<l.length)->l[j].aj≠c.aj) (fun s=>((l.length:Int)-s).toNat)
  (fun o => match o with | .inl _ => ∀ x ∈ l, x.aj ≠ c.aj | .inr (i, j) => ∃ k, ∃ hk : k < l.length, i = (k : Int) ∧ l[k].aj = c.aj ∧ (j = -1 ∨ ∃ m : Nat, m < l[k].al.length ∧ j = (m : Int))) (by
  rintro s ⟨i,rfl,hi,b⟩
  unfold gp
  simp only
  by_cases a:i<l.length
  ·rw [if_pos (decide_eq_true om),dR rfl a,w64 om om]
   simp only [zb,eqs]
   by_cases f:l[i].aj=c.aj
   ·rw [if_neg (by simp [f])]
    rcases place_in (c:=c) a (he _ (Ah a))with h|⟨m,hm,h⟩
    ·rw [h];exact .inr ⟨_,rfl,i,a,rfl,f,.inl rfl⟩
    ·rw [h];exact .inr ⟨_,rfl,i,a,rfl,f,.inr ⟨m,hm,rfl⟩⟩
   ·rw [if_pos (by simp [f])]
    refine .inl ⟨_,rfl,⟨i+1,om,om,fun j g n=>?_⟩,om⟩
    by_cases e:j=i
    ·subst e;exact f
    ·exact b j om n
  ·rw [if_neg so]
   refine .inr ⟨_,rfl,fun x q=>?_⟩
   obtain⟨j,g,rfl⟩:=Ch q
   exact b j om g) 0 ⟨0,rfl,AL _,fun j g=>om⟩
 unfold ic
 rw [h]
 rcases o with _|⟨i,j⟩
 ·exact⟨-1, -1,rfl,.inl ⟨rfl,rfl,p⟩⟩
 ·exact⟨i,j,rfl,.inr p⟩
theorem conflict_eq{l:List Epoch}(hl:l.length<=4000000000)(e:Epoch):∃b,fy l e=some b∧(b=false->∀x∈l,¬(x.az<e.fTo∧e.az<x.fTo)):=by
 have := cw (body := dZ l e) l (p := fun x => !(decide (x.az < e.fTo) && decide (e.az < x.fTo))) (u := .inl ()) (r := .inr true) (fun i hi => by
  unfold dZ
  rw [if_pos (decide_eq_true om),dR rfl hi,w64 om om]
  simp only [zb,ea]
  cases decide (l[i].az<e.fTo)<;>cases decide (e.az<l[i].fTo)<;>rfl) (by
  unfold dZ
  rw [if_neg sm])
 unfold fy
 rw [this]
 by_cases h:l.all (fun x=> !(decide (x.az<e.fTo)&&decide (e.az<x.fTo)))=true
 ·rw [if_pos h]
  refine⟨false,rfl,fun _ x c a=>?_⟩
  have:=List.all_eq_true.1 h x c
  simp [a]at this
 ·rw [if_neg h]
  exact⟨true,rfl,fun h=>by cases h⟩
theorem add_eq{l:List Epoch}(hl:l.length<=4000000000){e:Epoch}(he:ROk e.aB):
  ∃k,k<=l.length∧jh l e=some (l.take k++e::l.drop k)∧(∀j,(h:j<k)->(c:j<l.length)->l[j].az<e.az)∧(∀h:k<l.length,¬l[k].az<e.az):=by
 have key:∃k:Nat,k<=l.length∧cI (fx l e) (0:Int)=some (k:Int)∧(∀j,(h:j<k)->(c:j<l.length)->l[j].az<e.az)∧(∀h:k<l.length,¬l[k].az<e.az):=by
  rcases ev (body := fx l e) l.length (q := fun i => match l[i]? with | some x => decide (x.az < e.az) | none => true) (u := (l.length : Int)) (r := fun i => (i : Int)) (fun i hi => by
   unfold fx
   rw [if_pos (decide_eq_true om),dR rfl hi,w64 om om]
   simp only [zb,zc hi]
   rfl) (by
   unfold fx
   rw [if_neg sm])with⟨h,c⟩|⟨i,hi,h,c,f⟩
  ·refine⟨l.length,AB _,h,fun j g b=>?_,fun h=>om⟩
   have:=c j b
   simpa [zc b]using this
  ·refine⟨i,om,h,fun j g b=>?_,fun n hc=>?_⟩
   ·have:=f j g
    simpa [zc b]using this
   ·simp [zc hi,hc]at c
 obtain⟨k,hk,h,h1,m⟩:=key
 refine⟨k,hk,?_,h1,m⟩
 unfold jh
 rw [h, zb, dX (a := 0) (i := 0) (j := k) rfl rfl om hk, zb, bA so, zb, copyE he, zb, bA so, zb,
  dX (i:=k) (j:=l.length) rfl rfl hk (AB _),zb,bA so,zb]
 have ht:Cq (l.length-k) (C8 k l)=l.drop k:=Cu sm
 rw [ht]
 simp
end Go.Dw.Ix
set_option maxRecDepth 100000
set_option maxHeartbeats 4000000
namespace Go.Dw.Ix
open Go.Dw
theorem nets_ok:∀s∈nets,bq s 1 2=true∧s.length<=8:=by decide
theorem stas_ok:∀s∈stas,bq s 1 5=true∧s.length<=8:=by decide
theorem locs_ok:∀s∈locs,(bq s 0 2=true∧s.length≠1)∧s.length<=8:=by decide
theorem chas_ok:∀s∈chas,bq s 3 3=true∧s.length<=8:=by decide
theorem iU{a:Src}(h:iL a):iM a∧bw a=true:=by
 obtain⟨h1,b,c,e⟩:=h
 have a1:=nets_ok _ h1;have a2:=stas_ok _ b;have a3:=locs_ok _ c;have a4:=chas_ok _ e
 refine⟨⟨om,om,om,om⟩,?_⟩
 unfold bw
 simp [a1.1,a2.1,a3.1.1,a3.1.2,a4.1]
def CV(c:Chan)(m:Nat):Prop:=iL c.aj∧m<=c.al.length∧c.al.length<=32∧(∀e∈c.al,vE e=true∧ROk e.aB)∧c.al.Pairwise (fun a b=>a.fTo<=b.az)
def Srt(l:List Chan):Prop:=(l.map (·.aj)).Pairwise (fun x y=>bU x y<0)
def IV(l:List Chan):Prop:=(∀c∈l,CV c 1)∧Srt l∧l.length<=128
theorem vE_lt{e:Epoch}(h:vE e=true):e.az<e.fTo∧0<=e.az∧e.fTo<=9007199254740992:=by
 unfold vE at h
 simp only [Ac,decide_eq_true_eq]at h
 omega
theorem CV_E{c:Chan}{m:Nat}(h:CV c m):EOk c.al:=⟨by have:=h.2.2.1;omega,fun e he=>(h.2.2.2.1 e he).2⟩
theorem CV_vEs{c:Chan}(h:CV c 1):vEs c.al=true:=by
 obtain⟨-,h1,e,a,b⟩:=h
 generalize c.al=l at*
 unfold vEs
 have hi:inB l.length 1 32=true:=by unfold inB;simp;omega
 rw [hi,BS,C3]
 intro i hi
 have hi:=List.mem_range.1 hi
 match i,hi with
 |0,hi=>rw [stepE_0 hi];exact(a _ (Ah hi)).1
 |i+1,hi=>
  rw [jW hi,(a _ (Ah hi)).1,Cy]
  exact decide_eq_true (List.pairwise_iff_getElem.1 b i (i+1) om hi om)
theorem Srt_get{l:List Chan}(h:Srt l){i j:Nat}(hi:i<j)(a:j<l.length):bU l[i].aj l[j].aj<0:=by
 have:=List.pairwise_iff_getElem.1 h i j so (by simpa using a) hi
 simpa using this
theorem IV_I{l:List Chan}(h:IV l):IOk l:=⟨by have:=h.2.2;omega,fun c hc=>⟨(iU (h.1 c hc).1).1,CV_E (h.1 c hc)⟩⟩
theorem IV_vI{l:List Chan}(h:IV l):vI l=true:=by
 obtain⟨h1,a,b⟩:=h
 unfold vI
 rw [decide_eq_true b,BS,C3]
 intro i hi
 have hi:=List.mem_range.1 hi
 have hc:=h1 _ (Ah hi)
 match i,hi with
 |0,hi=>rw [stepI_0 hi,(iU hc.1).2,CV_vEs hc];rfl
 |i+1,hi=>
  rw [jX hi,(iU hc.1).2,CV_vEs hc]
  exact decide_eq_true (Srt_get a om hi)
theorem ins_ep{l:List Epoch}{e:Epoch}{k:Nat}(C:l.Pairwise (fun a b=>a.fTo<=b.az))(p:∀x∈l,x.az<x.fTo)(he:e.az<e.fTo)(q:∀x∈l,¬(x.az<e.fTo∧e.az<x.fTo))(hk:k<=l.length)
  (h1:∀j,(h:j<k)->(B:j<l.length)->l[j].az<e.az) (r:∀h:k<l.length,¬l[k].az<e.az):(l.take k++e::l.drop k).Pairwise (fun a b=>a.fTo<=b.az):=by
 have f:(l.take k++l.drop k).Pairwise (fun a b=>a.fTo<=b.az):=by rwa [Cr]
 obtain⟨v,n,z⟩:=List.pairwise_append.1 f
 have m:∀y∈l.take k,y.fTo<=e.az:=fun y c=>by
  have hm:=q y (A3 c)
  obtain⟨j,s,rfl⟩:=Ch c
  simp only [Ay]at s
  rw [Ci]at hm⊢
  have:=h1 j om om
  omega
 have i:∀y∈l.drop k,e.fTo<=y.az:=fun y c=>by
  have hm:=q y (A2 c)
  have u:=p y (A2 c)
  by_cases g:k<l.length
  ·have:=r g
   have t:=p _ (Ah g)
   rw [Ca g]at c n
   rcases List.mem_cons.1 c with rfl|c
   ·omega
   ·have:=(List.pairwise_cons.1 n).1 y c
    omega
  ·rw [Cb om]at c;cases c
 refine List.pairwise_append.2 ⟨v,List.pairwise_cons.2 ⟨i,n⟩,fun a o b hb=>?_⟩
 rcases List.mem_cons.1 hb with rfl|hb
 ·exact m a o
 ·exact z a o b hb
theorem ne0{n:Int}{A:Prop}(h:n≠0):n=0->A:=fun a=>(h a).elim
theorem k37_ok{A B:List Chan}{c0:Chan}{c:aG}(F:∀x∈A,CV x 1)(G:∀x∈B,CV x 1)(hc:CV c0 0)(t:Srt (A++c0::B))(I:(A++c0::B).length<=129)(u:vE c.bi=true)(s:ROk c.bi.aB):
  ∃r,dN c (A.length:Int) (A++c0::B)=some r∧(r.2=0->IV r.1.am):=by
 have hk:A.length<(A++c0::B).length:=by simp
 have q:(A++c0::B)[A.length]'hk=c0:=by simp
 obtain⟨v, -,H,m,y⟩:=hc
 unfold dN
 rw [lY om om,dR (i:=A.length) rfl hk,q]
 simp only [zb]
 obtain⟨b,hb,n⟩:=conflict_eq (l:=c0.al) om c.bi
 rw [hb,zb]
 cases b with
 |true=>exact⟨_,rfl,ne0 (by decide)⟩
 |false=>
  obtain⟨k,z,e2,C,D⟩:=add_eq (l:=c0.al) om s
  rw [if_neg (by decide),e2]
  simp only [zb]
  rw [iB (i:=A.length) rfl hk,q]
  have j:(A++c0::B).set A.length ⟨c0.aj,c0.al.take k++c.bi::c0.al.drop k⟩=A++⟨c0.aj,c0.al.take k++c.bi::c0.al.drop k⟩::B:=by simp
  rw [j]
  generalize f:(⟨c0.aj,c0.al.take k++c.bi::c0.al.drop k⟩:Chan)=d
  have g:A.length<(A++d::B).length:=by simp
  have o:(A++d::B)[A.length]'g=d:=by simp
  simp only [zb]
  by_cases p:(A++d::B).length>128
  ·rw [if_pos (decide_eq_true om)];exact⟨_,rfl,ne0 (by decide)⟩
  rw [if_neg (by simp only [decide_eq_true_eq];omega),lY om om,dR (i:=A.length) rfl g,o]
  simp only [zb]
  by_cases E:d.al.length>32
  ·rw [if_pos (decide_eq_true om)];exact⟨_,rfl,ne0 (by decide)⟩
  rw [if_neg (by simp only [decide_eq_true_eq];omega)]
  refine⟨_,rfl,fun _=>⟨fun x a=>?_,?_,za⟩⟩
  ·rcases List.mem_append.1 a with a|a
   ·exact F x a
   rcases List.mem_cons.1 a with rfl|a
   ·subst f
    refine⟨v,so,om,fun e he=>?_,ins_ep y (fun x a=>(vE_lt (m x a).1).1) (vE_lt u).1 (n rfl) z C D⟩
    rcases List.mem_append.1 he with he|he
    ·exact m e (A3 he)
    rcases List.mem_cons.1 he with rfl|he
    ·exact⟨u,s⟩
    ·exact m e (A2 he)
   ·exact G x a
  ·unfold Srt at t⊢
   subst f
   simpa using t
theorem fits_ok{l:List Chan}{c:aG}(hl:IV l)(f:iL c.aj)(e:ROk c.bi.aB):∃b,iF ⟨l⟩ c=some b∧(b=true->c.aQ≠1->vE c.bi=true):=by
 obtain⟨s1,s2⟩:=iU f
 unfold iF jE
 rw [ir (IV_I hl),IV_vI hl,In_eq,gE s1,s2,ref_vE_eq e]
 simp only [zb,Cx,Aj,if_false]
 cases inB c.aQ 0 2 with
 |false=>exact⟨_,rfl,fun h=>by cases h⟩
 |true=>
  simp only [Cx,Aj,if_false]
  by_cases hk:c.aQ=1
  ·have g:∃b,fQ c.bi.aB ⟨[]⟩=some b:=by
    unfold fQ
    by_cases h:c.bi.aB.aA=[]
    ·rw [if_neg (by simp [h])]
     have:cI (eL c.bi.aB ⟨[]⟩) (0:Int)=some (.inl ()):=kf (by unfold eL;rw [if_neg (by simp [h])])
     rw [this];exact⟨_,rfl⟩
    ·rw [if_pos (by simpa using h)];exact⟨_,rfl⟩
   obtain⟨b,hb⟩:=g
   rw [if_pos (by simpa using hk)]
   unfold ca
   rw [hb]
   simp only [zb,eu]
   exact⟨_,rfl,fun _ h=>(h hk).elim⟩
  ·rw [if_neg (by simpa using hk)]
   cases i:vE c.bi with
   |false=>exact⟨_,rfl,fun h=>by cases h⟩
   |true=>
    simp only [if_true]
    by_cases a:c.aQ=2
    ·rw [if_pos (by simpa using a)];exact⟨_,rfl,fun _ _=>trivial⟩
    ·rw [if_neg (by simpa using a)];exact⟨_,rfl,fun _ _=>trivial⟩
theorem shift_eq{α:Type}{out:List α}{x z:α}{k:Nat}(hk:k<=out.length):
  (nM (out++[z]) (k+1) (out.length+1-(k+1)) (((out++[z]).drop k).take (out.length+1-k))).set k x=out.take k++x::out.drop k:=by
 have hd:(out++[z]).drop k=out.drop k++[z]:=C9 hk
 have b:((out++[z]).drop k).take (out.length+1-k)=out.drop k++[z]:=by
  rw [hd];exact Cu so
 unfold nM
 rw [b]
 have a:Nat.min (out.drop k++[z]).length (out.length+1-(k+1))=out.length-k:=by
  show min _ _=_
  simp
 rw [a]
 have ht:(out.drop k++[z]).take (out.length-k)=out.drop k:=by
  rw [Cs sm]
  exact Cu sm
 have e:(out++[z]).drop (k+1+(out.length-k))=[]:=Cb so
 rw [ht,e,BF]
 have c:(out++[z]).take (k+1)=out.take k++[(out++[z])[k]'so]:=by
  rw [kK so,Cs hk]
 rw [c,AE,Cp _ _ so]
 simp [As hk]
theorem ins_sorted{out:List Src}{x:Src}{k:Nat}(ho:out.Pairwise (fun x y=>bU x y<0))(hk:k<=out.length)(h1:∀j,(h:j<k)->(t:j<out.length)->bU out[j] x<0)
  (o:∀h:k<out.length,¬bU out[k] x<0∧out[k]≠x):(out.take k++x::out.drop k).Pairwise (fun x y=>bU x y<0):=by
 have c:(out.take k++out.drop k).Pairwise (fun x y=>bU x y<0):=by rwa [Cr]
 obtain⟨r,l,s⟩:=List.pairwise_append.1 c
 have i:∀y∈out.take k,bU y x<0:=fun y e=>by
  obtain⟨j,p,rfl⟩:=Ch e
  simp only [Ay]at p
  rw [Ci]
  exact h1 j om om
 have g:∀y∈out.drop k,bU x y<0:=fun y e=>by
  by_cases f:k<out.length
  ·obtain⟨g1,g2⟩:=o f
   have n:bU x out[k]<0:=by
    have:=cJ.oY x out[k]
    by_cases q:bU out[k] x=0
    ·exact(g2 (cmpS_zero q)).elim
    ·omega
   rw [Ca f]at e l
   rcases List.mem_cons.1 e with rfl|e
   ·exact n
   ·exact cJ.lt n (by have:=(List.pairwise_cons.1 l).1 y e;omega)
  ·rw [Cb om]at e;cases e
 refine List.pairwise_append.2 ⟨r,List.pairwise_cons.2 ⟨g,l⟩,fun a m b hb=>?_⟩
 rcases List.mem_cons.1 hb with rfl|hb
 ·exact i a m
 ·exact s a m b hb
theorem split_at{α:Type}{l:List α}{k:Nat}(hk:k<l.length):∃A B,l=A++l[k]::B∧A.length=k:=
 ⟨l.take k,l.drop (k+1),by rw [<-Ca hk,Cr],so⟩
theorem find48{l:List Chan}(hl:l.length<=1000)(c:aG):∃k:Nat,k<=l.length∧cI (dP l c) (0:Int)=some (k:Int)∧(∀j,(h:j<k)->(b:j<l.length)->bU l[j].aj c.aj<0)∧(∀h:k<l.length,¬bU l[k].aj c.aj<0):=by
 rcases ev (body := dP l c) l.length (q := fun i => match l[i]? with | some x => decide (bU x.aj c.aj < 0) | none => true) (u := (l.length : Int)) (r := fun i => (i : Int)) (fun i hi => by
  unfold dP
  rw [if_pos (decide_eq_true om),lY om om,dR rfl hi,w64 om om]
  simp only [zb,gY,zc hi]
  rfl) (by
  unfold dP
  rw [if_neg sm])with⟨h,b⟩|⟨i,hi,h,b,e⟩
 ·refine⟨l.length,AB _,h,fun j f a=>?_,fun h=>om⟩
  have:=b j a
  simpa [zc a]using this
 ·refine⟨i,om,h,fun j f a=>?_,fun g hc=>?_⟩
  ·have:=e j f
   simpa [zc a]using this
  ·simp [zc hi,hc]at b
theorem apply_ok{l:List Chan}{c:aG}(hl:IV l)(Y:iL c.aj)(H:ROk c.bi.aB):∃r,ia ⟨l⟩ c=some r∧(r.2=0->IV r.1.am):=by
 obtain⟨b,hf,hb⟩:=fits_ok hl Y H
 obtain⟨h1,C,W⟩:=hl
 unfold ia
 rw [hf,zb]
 cases b with
 |false=>exact⟨_,rfl,ne0 (by decide)⟩
 |true=>
 have hb:=hb rfl
 rw [if_neg (by decide),copyI (IV_I ⟨h1,C,W⟩),zb]
 obtain⟨i,j,hp,X⟩:=place_eq (l:=l) om (fun x f=>by have:=(h1 x f).2.2.1;omega) c
 simp only
 rw [hp,zb]
 simp only
 by_cases v:c.aQ=0
 ·rw [if_neg (by simpa using v)]
  unfold dO
  rw [if_neg (by simp [v])]
  simp only
  have hv:=hb om
  rcases X with⟨rfl,rfl,E⟩|⟨k,hk,rfl,T, -⟩
  ·rw [if_pos sm]
   obtain⟨k,k1,k2,k3,k4⟩:=find48 (l:=l) om c
   rw [k2,zb,bA so,zb]
   generalize hz:(aa.mk (ac.mk [] [] [] []) [])=z
   have hlen:(l++[z]).length=l.length+1:=by simp
   rw [hlen,w64 (n:=(k:Int)+1) om om,oL om om om,zb,oL om om om,zb]
   have t1:(0+((k:Int)+1).toNat)=k+1:=by omega
   have t2:(0+(((l.length+1:Nat):Int)).toNat)=l.length+1:=by omega
   have t3:(0+((k:Int)).toNat)=k:=by omega
   rw [t1,t2,t3,tI om om,zb,qx om om,zb]
   have G:=shift_eq (out:=l) (x:=(⟨c.aj,[]⟩:Chan)) (z:=z) k1
   have a5:(nM (l++[z]) (k+1) (l.length+1-(k+1)) (((l++[z]).drop k).take (l.length+1-k))).length=l.length+1:=by
    have:=congrArg Cj G
    rw [A0]at this
    rw [this]
    simp
    omega
   rw [lY om om,zb,iB (i:=k) rfl om,zb,G]
   have O:(l.take k).length=k:=by simp;omega
   have := k37_ok (A := l.take k) (B := l.drop k) (c0 := ⟨c.aj, []⟩) (c := c) (fun x f => h1 x (A3 f)) (fun x f => h1 x (A2 f)) ⟨Y, AL _, sm, fun e he => (by cases he), List.Pairwise.nil⟩ (by
    unfold Srt at C⊢
    have := ins_sorted (x := c.aj) (k := k) C (by simpa using k1) (fun j L N => by simpa using k3 j L (by simpa using N)) (fun h => by
     have U:k<l.length:=by simpa using h
     refine⟨by simpa using k4 U,by simpa using E _ (Ah U)⟩)
    simpa [List.map_take,List.map_drop]using this) so hv H
   rw [O]at this
   exact this
  ·rw [if_neg sm]
   obtain⟨A,B,q,I⟩:=split_at hk
   have g:=h1 _ (Ah hk)
   generalize l[k]=c0 at*
   subst q I
   exact k37_ok (fun x f=>h1 x (by simp [f])) (fun x f=>h1 x (by simp [f])) ⟨g.1,AL _,g.2.2⟩ C om hv H
 ·rw [if_pos (by simpa using v)]
  rcases X with⟨rfl,rfl,E⟩|⟨k,hk,rfl,T,L⟩
  ·exact⟨_,rfl,ne0 (by decide)⟩
  rcases L with rfl|⟨m,hm,rfl⟩
  ·exact⟨_,rfl,ne0 (by decide)⟩
  rw [if_neg sm,lY om om,dR rfl hk]
  have g:=h1 _ (Ah hk)
  have a4:l[k].al.length<=32:=g.2.2.1
  simp only [zb]
  rw [dX (a := 0) (i := 0) (j := m) rfl rfl om om, zb, bA so, zb, w64 (n := (m : Int) + 1) om om, dX (i := m + 1) (j := l[k].al.length) om rfl om (AB _), zb,
   bA so,zb,iB (i:=k) rfl hk]
  simp only [zb]
  have J:([]:List Epoch)++Cq (m-0) (C8 0 l[k].al)++Cq (l[k].al.length-(m+1)) (C8 (m+1) l[k].al)=l[k].al.eraseIdx m:=by
   rw [Cu (l:=C8 (m+1) l[k].al) sm,List.eraseIdx_eq_take_drop_succ];rfl
  rw [J]
  have o:(l[k].al.eraseIdx m).Sublist l[k].al:=List.eraseIdx_sublist _ _
  obtain⟨A,B,q,I⟩:=split_at hk
  generalize l[k]=c0 at*
  subst q I
  have F:(A++c0::B).set A.length ⟨c0.aj,c0.al.eraseIdx m⟩=A++⟨c0.aj,c0.al.eraseIdx m⟩::B:=by simp
  rw [F]
  have u:CV ⟨c0.aj,c0.al.eraseIdx m⟩ 0:=⟨g.1,AL _,AO o.length_le g.2.2.1,fun e he=>g.2.2.2.1 e (o.subset he),g.2.2.2.2.sublist o⟩
  have p:Srt (A++⟨c0.aj,c0.al.eraseIdx m⟩::B):=by unfold Srt at C⊢;simpa using C
  have s:∀x∈A,CV x 1:=fun x f=>h1 x (by simp [f])
  have t:∀x∈B,CV x 1:=fun x f=>h1 x (by simp [f])
  generalize hd:(⟨c0.aj,c0.al.eraseIdx m⟩:Chan)=d at*
  have Q:(A++d::B).length<=128:=by simp at W⊢;omega
  have D:A.length<(A++d::B).length:=by simp
  have K:(A++d::B)[A.length]'D=d:=by simp
  unfold dO
  simp only
  by_cases y:c.aQ=1
  ·rw [if_pos (by simpa using y),lY om om,dR rfl D,K]
   simp only [zb]
   by_cases a9:d.al.length=0
   ·rw [if_pos (by simp only [beq_iff_eq];omega),oL om om om,zb,w64 (n:=(A.length:Int)+1) om om,oL om om om,zb]
    have t1:(0+((A.length:Int)+1).toNat)=A.length+1:=by omega
    have t2:(0+(((A++d::B).length:Nat):Int).toNat)=(A++d::B).length:=by omega
    rw [t1,t2,qx om om,zb,B5]
    have e1:(A++d::B).take A.length=A:=by simp
    have e2:Cq ((A++d::B).length-(A.length+1)) (C8 (A.length+1) (A++d::B))=B:=by
     have:C8 (A.length+1) (A++d::B)=B:=by rw [List.drop_append];simp
     rw [this];exact Cu so
    rw [e1,e2,bA (by simp at Q;omega),zb]
    refine⟨_,rfl,fun _=>⟨fun x f=>?_,?_,by simp at Q⊢;omega⟩⟩
    ·rcases List.mem_append.1 f with f|f
     ·exact s x f
     ·exact t x f
    ·unfold Srt at p⊢
     refine p.sublist ?_
     simp
   ·rw [if_neg (by simp only [beq_iff_eq];omega)]
    refine⟨_,rfl,fun _=>⟨fun x f=>?_,p,Q⟩⟩
    rcases List.mem_append.1 f with f|f
    ·exact s x f
    rcases List.mem_cons.1 f with rfl|f
    ·exact⟨u.1,om,u.2.2⟩
    ·exact t x f
  ·rw [if_neg (by simpa using y),if_neg sm]
   exact k37_ok s t u p om (hb y) H
end Go.Dw.Ix
set_option maxRecDepth 100000
set_option maxHeartbeats 4000000
namespace Go.Dw.Ix
open Go.Dw
theorem eta_d(d:Dice):ae.mk d.fL d.fAt=d:=rfl
theorem f8{l:List Int}{d:Dice}(h1:1<=l.length)(i:l.length<=1000000)(hd:aV d):∃v c,bK l d=some (v,c)∧v∈l∧aV c:=by
 obtain⟨v,c,e,a,b,hd⟩:=aT (k:=(l.length:Int)) om om hd
 obtain⟨x,f,g⟩:=ep (l:=l) a b
 exact⟨x,c,by unfold bK;rw [e,zb];simp only;rw [g];rfl,f,hd⟩
theorem new_ok:∀a∈([1,3,20,100,40,4096,7]:List Int),∀b∈([1,1,1,3,7,4096]:List Int),∃r,gH a b=some r:=by
 have:(([1,3,20,100,40,4096,7]:List Int).all fun a=>([1,1,1,3,7,4096]:List Int).all fun b=>(hP a b).isSome)=true:=by kernel_rfl
 intro a c b hb
 have:=List.all_eq_true.1 (List.all_eq_true.1 this a c) b hb
 obtain⟨r,e⟩:=Option.isSome_iff_exists.1 this
 exact⟨r,ref02_New_le _ _ _ e⟩
theorem rate_ok{d:Dice}(hd:aV d):∃r a,jc d=some (r,a)∧aV a:=by
 obtain⟨v1,d1,b,m1,hd⟩:=f8 (l:=[1,3,20,100,40,4096,7]) sm sm hd
 obtain⟨v2,d2,e2,m2,hd⟩:=f8 (l:=[1,1,1,3,7,4096]) sm sm hd
 obtain⟨r,c⟩:=new_ok v1 m1 v2 m2
 exact⟨r.1,d2,by unfold jc;rw [b,zb];simp only;rw [e2,zb];simp only;rw [c];rfl,hd⟩
theorem taps_ok{n:Int}{d:Dice}{t:List Int}(c:0<=n)(h1:n<=2)(ht:t.length<=1)(hd:aV d):∃b t',cI fh (n,d.fL,d.fAt,t)=some (b.fL,b.fAt,t')∧aV b∧t'.length<=10:=by
 obtain ⟨o, h, g⟩ := kY (body := fh) (fun s => 0 ≤ s.1 ∧ s.1 ≤ 2 ∧ aV ⟨s.2.1, s.2.2.1⟩ ∧ (s.2.2.2.length : Int) + 2 * s.1 ≤ 10) (fun s => s.1.toNat) (fun o => aV ⟨o.1, o.2.1⟩ ∧ o.2.2.length ≤ 10) (by
  rintro⟨n,L,a,t⟩ ⟨c,h1,hd,ht⟩
  simp only at c h1 hd ht
  unfold fh
  simp only
  by_cases f:n>0
  ·obtain⟨v,b,e, -, -,hd⟩:=aT (k:=4) om om hd
   rw [if_pos (decide_eq_true f),e,zb,bA so,zb,bA so,zb,w64 om om]
   exact .inl ⟨_,rfl,⟨za,za,hd,so⟩,za⟩
  ·rw [if_neg (by simpa using f)]
   exact .inr ⟨_,rfl,hd,za⟩) (n,d.fL,d.fAt,t) ⟨c,h1,hd,za⟩
 exact⟨⟨o.1,o.2.1⟩,o.2.2,h,g.1,g.2⟩
theorem stage_ok{d:Dice}(hd:aV d):∃s g,iw d=some (s,g)∧aV g∧s.aO.length<=11:=by
 unfold iw
 obtain⟨v1,d1,o,q,u1,hd⟩:=aT (k:=3) om om hd
 rw [o,zb]
 simp only
 by_cases i:v1=0
 ·obtain⟨v2,d2,e2, -, -,hd⟩:=aT (k:=9) om om hd
  obtain⟨v3,d3,a, -, -,hd⟩:=aT (k:=9) om om hd
  rw [if_pos (by simpa using i),e2,zb]
  simp only
  rw [a]
  exact⟨_,_,rfl,hd,sm⟩
 rw [if_neg (by simpa using i)]
 by_cases h1:v1=1
 ·obtain⟨v2,d2,e2, -, -,hd⟩:=aT (k:=9) om om hd
  obtain⟨v3,d3,a, -, -,hd⟩:=aT (k:=9) om om hd
  obtain⟨v4,d4,b, -, -,hd⟩:=aT (k:=3) om om hd
  obtain⟨v5,d5,c, -,hd⟩:=f8 (l:=[1,2, -3,1048576]) sm sm hd
  obtain⟨v6,d6,e, -, -,hd⟩:=aT (k:=9) om om hd
  obtain⟨m,d7,f, -,hd⟩:=f8 (l:=[0,1,1048576]) sm sm hd
  simp only [h1,beq_self_eq_true,if_true,e2,a,b,c,e,f,zb]
  exact⟨_,_,rfl,hd,sm⟩
 rw [if_neg (by simpa using h1)]
 obtain⟨v2,d2,e2, -, -,hd⟩:=aT (k:=4) om om hd
 obtain⟨v3,d3,a, -,hd⟩:=f8 (l:=[1,1,2,5]) sm sm hd
 obtain⟨v4,d4,b, -, -,hd⟩:=aT (k:=5) om om hd
 obtain⟨v5,d5,c,p,r,hd⟩:=aT (k:=3) om om hd
 obtain⟨d6,t,e,hd,ht⟩:=taps_ok (n:=v5) (t:=[(CH .i64 ((1:Int)+v2))]) p om sm hd
 obtain⟨m,d7,f, -, -,hd⟩:=aT (k:=6) om om hd
 simp only [e2,a,b,c,e,eta_d,f,zb]
 by_cases j:m=0
 ·rw [if_pos (by simpa using j),bA so]
  exact⟨_,_,rfl,hd,so⟩
 ·rw [if_neg (by simpa using j)]
  exact⟨_,_,rfl,hd,za⟩
theorem response_ok{d:Dice}(hd:aV d):∃r g,eF d=some (r,g)∧aV g∧ROk r:=by
 obtain⟨v1,d1,m,u,u1,hd⟩:=aT (k:=4) om om hd
 obtain⟨o,h,l⟩:=kY (body:=fg) (fun s=>0<=s.2.1∧s.2.1<=3∧aV ⟨s.2.2.1,s.2.2.2.1⟩∧(s.2.2.2.2.length:Int)+s.2.1<=3∧∀x∈s.2.2.2.2,x.aO.length<=11) (fun s=>s.2.1.toNat)
  (fun o => aV ⟨o.1, o.2.1⟩ ∧ o.2.2.length ≤ 3 ∧ ∀ x ∈ o.2.2, x.aO.length ≤ 11) (by
  rintro⟨p,n,L,a,t⟩ ⟨q,h1,hd,ht,f⟩
  simp only at q h1 hd ht f
  unfold fg
  simp only
  by_cases j:n>0
  ·obtain⟨s,g,e,hd,i⟩:=stage_ok hd
   rw [if_pos (decide_eq_true j),e,zb]
   have c:∀x∈t++[s],x.aO.length<=11:=fun x h=>by
    rcases List.mem_append.1 h with h|h
    ·exact f x h
    ·rw [List.mem_singleton.1 h];exact i
   have b:lu t [s] 96=some (t++[s]):=bA so
   simp only [b,zb]
   rw [w64 (n:=n-1) om om]
   split
   ·split
    ·exact .inr ⟨_,rfl,hd,za,f⟩
    ·exact .inl ⟨_,rfl,⟨za,za,hd,so,c⟩,za⟩
   ·exact .inl ⟨_,rfl,⟨za,za,hd,so,c⟩,za⟩
  ·rw [if_neg (by simpa using j)]
   exact .inr ⟨_,rfl,hd,za,f⟩) (1,v1,d1.fL,d1.fAt,[]) ⟨u,za,hd,so,sm⟩
 refine⟨⟨o.2.2⟩,⟨o.1,o.2.1⟩,?_,l.1,za,fun s i=>by have:=l.2.2 s i;omega⟩
 unfold eF
 rw [m,zb]
 simp only
 rw [h];rfl
theorem epoch_ok{d:Dice}(hd:aV d):∃e a,iv d=some (e,a)∧aV a∧ROk e.aB:=by
 obtain⟨v1,d1,c, -, -,hd⟩:=aT (k:=20) om om hd
 obtain⟨v2,d2,e2,hd⟩:=rate_ok hd
 obtain⟨v3,d3,f, -, -,hd⟩:=aT (k:=8) om om hd
 obtain⟨v4,d4,g, -,hd⟩:=f8 (l:=[0,500, -1048576,1048576]) sm sm hd
 obtain⟨v5,d5,i, -, -,hd⟩:=aT (k:=1000) om om hd
 obtain⟨v6,d6,j, -,hd⟩:=f8 (l:=[0, -200, -16384]) sm sm hd
 obtain⟨p,d7,m, -, -,hd⟩:=aT (k:=2) om om hd
 unfold iv
 simp only [c,e2,f,g,i,j,m,zb]
 by_cases b:p=0
 ·obtain⟨r,d8,n,hd,o⟩:=response_ok hd
  rw [if_pos (by simpa using b),n]
  exact⟨_,_,rfl,hd,o⟩
 ·rw [if_neg (by simpa using b)]
  exact⟨_,_,rfl,hd,by simp [ROk]⟩
theorem k42_ok{l:List Chan}(hl:IV l){C:Int×Dice}{x2:Src×Dice}(E:iL x2.1){L:List Int}{a:Int}(hd:aV ⟨L,a⟩)(s t u v x y z B:Int){o:List Stage}(j:ROk ⟨o⟩):
  ∃c D,dI ⟨l⟩ C x2 L a s t u v x y z B o=some (c,D)∧aV D∧iL c.aj∧ROk c.bi.aB:=by
 obtain⟨h1,U,W⟩:=hl
 unfold dI
 simp only
 by_cases Q:l.length=0
 ·rw [if_neg (by simp [Q])]
  exact⟨_,_,rfl,hd,E,j⟩
 rw [if_pos (decide_eq_true om)]
 obtain⟨v1,d1,J, -, -,hd⟩:=aT (k:=3) om om hd
 rw [J,zb]
 simp only
 by_cases m:v1>0
 ·rw [if_pos (decide_eq_true m)]
  obtain⟨v2,d2,e2,a2,G,hd⟩:=aT (k:=(l.length:Int)) om om hd
  obtain⟨c,hc,g⟩:=ep (l:=l) a2 G
  rw [e2,zb]
  simp only
  rw [g,zb]
  have b:=h1 c hc
  have I:=b.2.2.1
  have T:=b.2.1
  by_cases hk:C.1=0
  ·rw [if_neg (by simpa using hk)]
   exact⟨_,_,rfl,hd,b.1,j⟩
  rw [if_pos (by simpa using hk)]
  obtain⟨v3,d3,K,a3,H,hd⟩:=aT (k:=(c.al.length:Int)) om om hd
  obtain⟨e,he,g3⟩:=ep (l:=c.al) a3 H
  rw [K,zb]
  simp only
  rw [g3,zb]
  have f:=(b.2.2.2.1 e he).2
  by_cases i:C.1=2
  ·rw [if_pos (by simpa using i)]
   obtain⟨v4,d4,N, -, -,hd⟩:=aT (k:=3) om om hd
   rw [N,zb]
   simp only
   by_cases n:v4>0
   ·obtain⟨v5,d5,O, -, -,hd⟩:=aT (k:=3) om om hd
    rw [if_pos (decide_eq_true n),copyE f,zb,O,zb]
    simp only
    by_cases z0:v5=0
    ·obtain⟨v6,d6,p, -,hd⟩:=f8 (l:=[-1,500,3000]) sm sm hd
     rw [if_pos (by simpa using z0),p]
     exact⟨_,_,rfl,hd,b.1,f⟩
    rw [if_neg (by simpa using z0)]
    by_cases F:v5=1
    ·rw [if_pos (by simpa using F)]
     exact⟨_,_,rfl,hd,b.1,f⟩
    rw [if_neg (by simpa using F)]
    by_cases z2:v5=2
    ·obtain⟨r,d6,p,hd,q⟩:=response_ok hd
     rw [if_pos (by simpa using z2),p]
     exact⟨_,_,rfl,hd,b.1,q⟩
    rw [if_neg (by simpa using z2)]
    exact⟨_,_,rfl,hd,b.1,f⟩
   ·rw [if_neg (by simpa using n)]
    exact⟨_,_,rfl,hd,b.1,j⟩
  ·rw [if_neg (by simpa using i)]
   exact⟨_,_,rfl,hd,b.1,j⟩
 ·rw [if_neg (by simpa using m)]
  exact⟨_,_,rfl,hd,E,j⟩
theorem change_ok{l:List Chan}(hl:IV l){d:Dice}(hd:aV d):∃c a,hC ⟨l⟩ d=some (c,a)∧aV a∧iL c.aj∧ROk c.bi.aB:=by
 obtain⟨v1,d1,g, -,hd⟩:=f8 (l:=[0,0,1,2]) sm sm hd
 obtain⟨s,d2,e2,b,hd⟩:=ji hd
 unfold hC
 rw [g,zb]
 simp only
 rw [e2,zb]
 simp only
 by_cases f:v1=1
 ·rw [if_neg (by simpa using f)]
  exact k42_ok hl (x2:=(s,d2)) b hd _ _ _ _ _ _ _ _ (by simp [ROk])
 ·rw [if_pos (by simpa using f)]
  obtain⟨e,d3,i,hd,j⟩:=epoch_ok hd
  rw [i,zb]
  exact k42_ok hl (x2:=(s,d2)) b hd _ _ _ _ _ _ _ _ j
theorem inventory_ok{n:Int}{d:Dice}(i:0<=n)(h1:n<=1000)(hd:aV d):∃l b,ff n d=some (⟨l⟩,b)∧aV b∧IV l:=by
 obtain⟨v1,d1,p,v,u1,hd⟩:=aT (k:=n+1) om om hd
 obtain ⟨o, h, m⟩ := kY (body := eU) (fun s => 0 ≤ s.1 ∧ s.1 ≤ 1001 ∧ aV ⟨s.2.1, s.2.2.1⟩ ∧ IV s.2.2.2) (fun s => s.1.toNat) (fun o => aV ⟨o.2.1, o.2.2⟩ ∧ IV o.1) (by
  rintro⟨n,L,a,l⟩ ⟨i,h1,hd,hl⟩
  simp only at i h1 hd hl
  unfold eU
  simp only
  by_cases j:n>0
  ·obtain⟨c,b,e,hd,u,t⟩:=change_ok hl hd
   obtain⟨r,q,g⟩:=apply_ok (c:=c) hl u t
   rw [if_pos (decide_eq_true j),e,zb]
   simp only
   rw [q,zb,w64 (n:=n-1) om om]
   by_cases f:r.2=0
   ·rw [if_pos (by simpa using f)]
    exact .inl ⟨_,rfl,⟨za,za,hd,g f⟩,za⟩
   ·rw [if_neg (by simpa using f)]
    exact .inl ⟨_,rfl,⟨za,za,hd,hl⟩,za⟩
  ·rw [if_neg (by simpa using j)]
   exact .inr ⟨_,rfl,hd,hl⟩) (v1,d1.fL,d1.fAt,[]) ⟨v,za,hd,by simp [IV,Srt]⟩
 refine⟨o.1,⟨o.2.1,o.2.2⟩,?_,m.1,m.2⟩
 unfold ff
 rw [w64 (n:=n+1) om om,p,zb]
 simp only
 rw [h];rfl
end Go.Dw.Ix
set_option maxRecDepth 100000
set_option maxHeartbeats 4000000
namespace Go.Dw.Ix
open Go.Dw
theorem ij{α:Type}{n:Nat}{l:List α}(h:l.length*n<=140737488355328):nk n l=some l:=by
 unfold nk
 rw [if_pos h]
theorem mD{α:Type}{l:List α}{i:Nat}(h:i<l.length):l.set i l[i]=l:=by simp
theorem iK{α:Type}{cmp:α->α->Option Int}(hc:CmpOk cmp)(l:List α)(hl:l.length<4611686018427387904):∃r,pK cmp l=some r∧r.Perm l∧r.Pairwise (fun x y=>lt3 cmp y x=false):=by
 cases l with
 |nil=>exact⟨[],rfl,.nil,.nil⟩
 |cons a l=>
  have h:∃r,pK cmp (a::l)=some r:=⟨_,by rw [oH,if_pos ⟨hc,hl⟩]⟩
  obtain⟨r,b⟩:=h
  refine⟨r,b,w8 b,?_⟩
  rw [oH,if_pos ⟨hc,hl⟩]at b
  letI:Inhabited α:=⟨a⟩
  have:=Sort.pdq_sorts (lt3 cmp) hc.2 (a::l).toArray 0 (a::l).length (Lib.bitLen (a::l).length) true true (AL _) sm (.inl rfl)
  obtain⟨⟨m, -, -⟩,g⟩:=this
  have b:=Option.some.inj b
  rw [Cm]
  intro i j hi k e
  subst b
  have hsz:(Sort.pdq (lt3 cmp) (a::l).toArray 0 (a::l).length (Lib.bitLen (a::l).length) true true).size=(a::l).length:=by simpa using m
  have c:i<(Sort.pdq (lt3 cmp) (a::l).toArray 0 (a::l).length (Lib.bitLen (a::l).length) true true).size:=by simpa using hi
  have f:j<(Sort.pdq (lt3 cmp) (a::l).toArray 0 (a::l).length (Lib.bitLen (a::l).length) true true).size:=by simpa using k
  have h1:=g i j (AL _) e om
  rw [getElem!_pos _ i c,getElem!_pos _ j f]at h1
  simpa using h1
theorem pcopyE{e:Epoch}(he:ROk e.aB):dj e=some e:=by
 obtain⟨hl,ht⟩:=he
 have : cI (bP e.aB.aA) ((0 : Int), e.aB.aA) = some e.aB.aA := dK (body := bP e.aB.aA) e.aB.aA.length (fun i => ((i : Int), e.aB.aA)) (fun i hi => by
  have a:=ht _ (Ah hi)
  unfold bP
  simp only
  rw [if_pos (decide_eq_true om),lY om om,dR rfl hi]
  simp only [zb]
  rw [ij om,zb,iB (i:=i) rfl hi,zb,w64 om om]
  have:(ak.mk e.aB.aA[i].aQ e.aB.aA[i].aI e.aB.aA[i].aH e.aB.aA[i].aO e.aB.aA[i].aJ e.aB.aA[i].aS)=e.aB.aA[i]:=rfl
  rw [this,mD hi];rfl) (by
  unfold bP
  simp only
  rw [if_neg sm])
 unfold dj
 rw [ij om,zb,this];rfl
theorem pcopyC{c:Chan}(hc:EOk c.al):et c=some c:=by
 obtain⟨hl,ht⟩:=hc
 have : cI (cp c.al) ((0 : Int), c.al) = some c.al := dK (body := cp c.al) c.al.length (fun i => ((i : Int), c.al)) (fun i hi => by
  unfold cp
  simp only
  rw [if_pos (decide_eq_true om),lY om om,dR rfl hi]
  simp only [zb]
  rw [pcopyE (ht _ (Ah hi)),zb,uW (i:=i) rfl hi,zb,w64 om om,mD hi];rfl) (by
  unfold cp
  simp only
  rw [if_neg sm])
 unfold et
 rw [ij om,zb,this];rfl
def ins(x:Int)(e:Epoch):Bool:=decide (e.az<=x)&&decide (x<e.fTo)
theorem iy{x:Int}{e:Epoch}:ins x e=true↔e.az<=x∧x<e.fTo:=by unfold ins;simp
abbrev Span:=ap
def gy(l:List Span)(y:Int):Prop:=∃s,s∈l∧s.az<=y∧y<s.fTo
theorem jI(l m:List Span)(y:Int):gy (l++m) y↔gy l y∨gy m y:=by
 unfold gy
 constructor
 ·rintro⟨s,a,h⟩
  rcases List.mem_append.1 a with a|a
  ·exact .inl ⟨s,a,h⟩
  ·exact .inr ⟨s,a,h⟩
 ·rintro(⟨s,a,h⟩|⟨s,a,h⟩)
  ·exact⟨s,by simp [a],h⟩
  ·exact⟨s,by simp [a],h⟩
theorem jJ(s:Span)(y:Int):gy [s] y↔s.az<=y∧y<s.fTo:=by
 unfold gy
 constructor
 ·rintro⟨t,ht,h⟩;rw [List.mem_singleton.1 ht]at h;exact h
 ·intro h;exact⟨s,sm,h⟩
theorem has_eq{l:List Span}(hl:l.length<=4000000000)(x:Int):∃b,gJ l x=some b∧(b=true↔gy l x):=by
 have := cw (body := gC l x) l (p := fun s => !(decide (s.az ≤ x) && decide (x < s.fTo))) (u := .inl ()) (r := .inr true) (fun i hi => by
  unfold gC
  rw [if_pos (decide_eq_true om),dR rfl hi,w64 om om]
  simp only [zb]
  cases decide (l[i].az<=x)<;>cases decide (x<l[i].fTo)<;>rfl) (by
  unfold gC
  rw [if_neg sm])
 unfold gJ
 rw [this]
 by_cases h:l.all (fun s=> !(decide (s.az<=x)&&decide (x<s.fTo)))=true
 ·rw [if_pos h]
  have:¬gy l x:=fun⟨s,c,a⟩=>by
   have:=List.all_eq_true.1 h s c
   simp [a]at this
  exact⟨false,rfl,by simp [this]⟩
 ·rw [if_neg h]
  have:gy l x:=by
   have h:=List.all_eq_false.1 (Bool.not_eq_true _▸h)
   obtain⟨s,c,a⟩:=h
   exact⟨s,c,by simpa using a⟩
  exact⟨true,rfl,by simp [this]⟩
theorem cmp_int(a b:Int):dJ a b=some (cmpI a b):=by
 unfold dJ eI cmpI
 simp only [zb,bne_self_eq_false,Aj,if_false]
 by_cases h:a<b
 ·simp [h]
 ·by_cases c:a>b<;>simp [h,c]
theorem lit2_eq(a b:Span):bj a b=some (cmpI a.az b.az):=by
 unfold bj
 rw [cmp_int];rfl
theorem lit2_lt:lt3 bj=fun x y=>decide (cmpI x.az y.az<0):=by
 funext x y
 unfold lt3
 rw [lit2_eq];rfl
theorem lit2_ok:CmpOk bj:=⟨fun x y=>⟨_,lit2_eq x y⟩,by rw [lit2_lt];exact(cmpI_tot.map fun x:Span=>x.az).swo⟩
theorem del_ok{l:List Span}(hl:l.length<=4000000000)(h:∀s∈l,s.az<s.fTo):bS l=some l:=by
 have:cI (bp l) (0:Int)=some (.inl ()):=by
  have := cw (body := bp l) l (p := fun s => true) (u := .inl ()) (r := .inl ()) (fun i hi => by
   unfold bp eB span_some
   rw [if_pos (decide_eq_true om),dR rfl hi,w64 om om]
   simp only [zb,decide_eq_true (h _ (Ah hi))]
   rfl) (by
   unfold bp
   rw [if_neg sm])
  simpa using this
 unfold bS cO
 rw [this];rfl
theorem merge_ok{m:List Span}(hl:m.length<=4000000000)(E:∀s∈m,s.az<s.fTo)(a:m.Pairwise (fun x y=>x.az<=y.az)):
  ∃out,cI (bG m) ((0:Int),([]:List Span))=some out∧out.length<=m.length∧∀y,gy out y↔gy m y:=by
 have C:=List.pairwise_iff_getElem.1 a
 obtain⟨o,h,D⟩:=kY (body:=bG m) (fun st:Int×List Span=>∃i:Nat,st.1=(i:Int)∧i<=m.length∧st.2.length<=i∧(∀y,gy st.2 y↔gy (m.take i) y)∧(∀s:Span,s∈st.2->∃j,∃e:j<m.length,j<i∧s.az=m[j].az)) (fun s=>((m.length:Int)-s.1).toNat)
  (fun o => o.length ≤ m.length ∧ ∀ y, gy o y ↔ gy m y) (by
  rintro⟨s,out⟩ ⟨i,g,hi,ho,hc,hf⟩
  simp only at g ho hc hf
  subst g
  unfold bG
  simp only
  by_cases c:i<m.length
  ·have f:lu out [m[i]] 16=some (out++[m[i]]):=bA so
   rw [if_pos (decide_eq_true om),lY om om,dR rfl c,w64 (n:=(i:Int)+1) om om]
   simp only [zb,f]
   have l:∀y,gy (m.take (i+1)) y↔gy (m.take i) y∨(m[i].az<=y∧y<m[i].fTo):=fun y=>by rw [kK c,jI,jJ]
   have F:=E _ (Ah c)
   have b:(∃p:Nat,((i+1:Nat):Int)=(p:Int)∧p<=m.length∧(out++[m[i]]).length<=p∧(∀y,gy (out++[m[i]]) y↔gy (m.take p) y)∧(∀s∈out++[m[i]],∃j,∃e:j<m.length,j<p∧s.az=m[j].az)):=by
    refine⟨i+1,rfl,om,so,fun y=>by rw [jI,jJ,l,hc],fun s a=>?_⟩
    rcases List.mem_append.1 a with a|a
    ·obtain⟨j,e,h1,q⟩:=hf s a
     exact⟨j,e,om,q⟩
    ·rw [List.mem_singleton.1 a];exact⟨i,c,om,rfl⟩
   have u:out=[]∨∃init last,out=init++[last]:=by
    rcases List.eq_nil_or_concat out with h|⟨init,last,h⟩
    ·exact .inl h
    ·exact .inr ⟨init,last,by rw [h];simp⟩
   rcases u with rfl|⟨init,last,rfl⟩
   ·rw [if_neg sm]
    exact .inl ⟨_,rfl,b,za⟩
   ·have hlen:(init++[last]).length=init.length+1:=by simp
    rw [if_pos (decide_eq_true om),hlen]
    have hw:CH .i64 (((init.length+1:Nat):Int)-1)=(init.length:Int):=by rw [w64 om om];omega
    have z:(init++[last])[init.length]'sm=last:=by simp
    rw [hw,lY om om,dR (i:=init.length) rfl om,z]
    simp only [zb]
    by_cases hm:m[i].az<=last.fTo
    ·rw [if_pos (decide_eq_true hm),iB (i:=init.length) rfl om,z,zb]
     have k:∀v:Span,(init++[last]).set init.length v=init++[v]:=fun v=>by simp
     rw [k]
     obtain⟨j,e,h1,q⟩:=hf last sm
     have hle:last.az<=m[i].az:=by rw [q];exact C j i e c h1
     refine .inl ⟨_,rfl,⟨i+1,rfl,om,by simp at ho⊢;omega,fun y=>?_,fun s a=>?_⟩,za⟩
     ·rw [l, <-hc,jI,jI,jJ,jJ]
      simp only
      split
      ·constructor
       ·rintro(h|h)
        ·exact .inl (.inl h)
        ·by_cases G:y<last.fTo
         ·exact .inl (.inr ⟨h.1,G⟩)
         ·exact .inr ⟨om,h.2⟩
       ·rintro((h|h)|h)
        ·exact .inl h
        ·exact .inr ⟨h.1,om⟩
        ·exact .inr ⟨om,h.2⟩
      ·constructor
       ·rintro(h|h)
        ·exact .inl (.inl h)
        ·exact .inl (.inr h)
       ·rintro((h|h)|h)
        ·exact .inl h
        ·exact .inr h
        ·exact .inr ⟨om,om⟩
     ·rcases List.mem_append.1 a with a|a
      ·obtain⟨H,t,B,r⟩:=hf s (by simp [a])
       exact⟨H,t,om,r⟩
      ·rw [List.mem_singleton.1 a];exact⟨j,e,om,q⟩
    ·rw [if_neg (by simpa using hm)]
     exact .inl ⟨_,rfl,b,za⟩
  ·rw [if_neg so]
   refine .inr ⟨_,rfl,om,fun y=>?_⟩
   rw [hc,Cu om]) (0,[]) ⟨0,rfl,AL _,sm,fun y=>sm,sm⟩
 exact⟨o,h,D⟩
def i7(e:Epoch):Span:=⟨e.az,e.fTo⟩
end Go.Dw.Ix
set_option maxRecDepth 100000
set_option maxHeartbeats 4000000
namespace Go.Dw.Ix
open Go.Dw
theorem fd{α ω:Type} [DecidableEq α] {body:Int->Option (jY Int ω)}{l m:List α}{u r:ω}(b:l.length=m.length)
  (h1:∀(i:Nat)(hi:i<l.length)(c:i<m.length),body i=if decide (l[i]=m[i])=true then some (.next ((i+1:Nat):Int))else some (.stop r))
  (a:body (l.length:Nat)=some (.stop u)):cI body (0:Int)=some (if decide (l=m)=true then u else r):=by
 have := io (body := body) l.length (q := fun i => decide (l[i]? = m[i]?)) (u := u) (r := r) (fun i hi => by
  rw [h1 i hi om]
  simp only [zc hi,zc (show i<m.length by omega),Option.some.injEq]) a
 rw [this]
 congr 1
 have e:((AI l.length).all fun i=>decide (l[i]? =m[i]?))=decide (l=m):=by
  rw [Cw,C3,decide_eq_true_eq]
  constructor
  ·intro h
   apply List.ext_getElem?
   intro i
   by_cases hi:i<l.length
   ·simpa using h i (List.mem_range.2 hi)
   ·rw [Cg om,Cg om]
  ·rintro rfl i _
   simp
 rw [e]
theorem ne_len{α:Type} [DecidableEq α] {l m:List α}(h:l.length≠m.length):decide (l=m)=false:=decide_eq_false fun e=>h (by rw [e])
theorem equal_eq{l m:List Int}(hl:l.length<=17592186044416):ez l m=some (decide (l=m)):=by
 unfold ez
 by_cases h:l.length=m.length
 ·rw [if_neg so, fd (l := l) (m := m) (u := .inl ()) (r := .inr false) h (fun i hi a => by
   unfold eD
   rw [if_pos (decide_eq_true om),dR rfl hi,zb,dR rfl a,zb,w64 om om]
   by_cases e:l[i]=m[i]<;>simp [e]) (by
   unfold eD
   rw [if_neg sm]),zb]
  by_cases e:l=m<;>simp [e]
 ·rw [if_pos so,ne_len h]
theorem sst_loop{a b:Stage}(hl:a.aO.length<=17592186044416)(h:a.aO.length=b.aO.length):cI (dm a b) (0:Int)=some (if decide (a.aO=b.aO)=true then .inl ()else .inr false):=
 fd (l := a.aO) (m := b.aO) h (fun i hi c => by
  unfold dm
  rw [if_pos (decide_eq_true om),dR rfl hi,zb,dR rfl c,zb,w64 om om]
  by_cases e:a.aO[i]=b.aO[i]<;>simp [e]) (by
  unfold dm
  rw [if_neg sm])
theorem stage_eq{a b:Stage}(hl:a.aO.length<=17592186044416):dD a b=some (decide (a=b)):=by
 unfold dD
 rw [equal_eq hl]
 obtain⟨k,⟨n,n1,o⟩,⟨d0,d1,d2⟩,t,f,s⟩:=a
 obtain⟨k',⟨i,j,l⟩,⟨c,e,g⟩,t',m,s'⟩:=b
 simp only [zb,ak.mk.injEq,aK.mk.injEq,BS,Ac,beq_iff_eq,decide_eq_true_eq]
 repeat' split
 all_goals first|(simp_all;done)|grind
theorem ref_stage_eq{a b:Stage}(hl:a.aO.length<=17592186044416):eP a b=some (decide (a=b)):=by
 unfold eP
 by_cases h:a.aO.length=b.aO.length
 ·rw [sst_loop hl h]
  obtain⟨k,⟨o,n1,p⟩,⟨d0,d1,d2⟩,t,f,s⟩:=a
  obtain⟨k',⟨j,l,m⟩,⟨c,g,i⟩,t',n,s'⟩:=b
  simp only at h
  simp only [h,zb,ak.mk.injEq,aK.mk.injEq,bne_iff_ne,ne_eq,Bool.not_eq_true',BS,Ac,beq_iff_eq,Bool.and_eq_false_iff,beq_eq_false_iff_ne,not_true,if_false]
  by_cases e:t=t'<;>repeat' split
  all_goals first|(simp_all;done)|grind
 ·have e:decide (a=b)=false:=decide_eq_false fun e=>h (by rw [e])
  rw [e]
  repeat' split
  all_goals first|rfl|(simp_all;done)|grind
theorem stages_eq{l m:List Stage}(hl:ROk ⟨l⟩):bT l m=some (decide (l=m)):=by
 have b:l.length<=4000000000:=hl.1
 unfold bT
 by_cases h:l.length=m.length
 ·rw [if_neg so, fd (l := l) (m := m) (u := .inl ()) (r := .inr false) h (fun i hi a => by
   unfold ck
   rw [if_pos (decide_eq_true om),dR rfl hi,zb,dR rfl a,zb,w64 om om,stage_eq (hl.2 _ (Ah hi))]
   by_cases e:l[i]=m[i]<;>simp [e]) (by
   unfold ck
   rw [if_neg sm]),zb]
  by_cases e:l=m<;>simp [e]
 ·rw [if_pos so,ne_len h]
theorem resp_eq{a b:Resp}(c:ROk a):gc a b=some (decide (a=b)):=by
 obtain⟨a⟩:=a
 obtain⟨b⟩:=b
 unfold gc
 simp only [stages_eq c,zb,ar.mk.injEq]
theorem ref_resp_eq{a b:Resp}(c:ROk a):fQ a b=some (decide (a=b)):=by
 obtain⟨l⟩:=a
 obtain⟨m⟩:=b
 have g:l.length<=4000000000:=c.1
 unfold fQ
 simp only [ar.mk.injEq]
 by_cases h:l.length=m.length
 ·rw [if_neg so, fd (l := l) (m := m) (u := .inl ()) (r := .inr false) h (fun i hi f => by
   unfold eL
   simp only
   rw [if_pos (decide_eq_true om),dR rfl hi,zb,dR rfl f,zb,w64 om om,ref_stage_eq (c.2 _ (Ah hi))]
   by_cases e:l[i]=m[i]<;>simp [e]) (by
   unfold eL
   rw [if_neg sm]),zb]
  by_cases e:l=m<;>simp [e]
 ·rw [if_pos so,ne_len h]
theorem epoch_eq{a b:Epoch}(c:ROk a.aB):cy a b=some (decide (a=b)):=by
 unfold cy
 rw [resp_eq c]
 obtain⟨f,t,⟨n,d⟩,⟨x,y,z⟩,r⟩:=a
 obtain⟨g,t',⟨i,e⟩,⟨k,l,m⟩,j⟩:=b
 simp only [zb,ah.mk.injEq,av.mk.injEq,aw.mk.injEq,BS,Ac,beq_iff_eq]
 repeat' split
 all_goals first|(simp_all;done)|grind
theorem iH{a b:Epoch}(c:ROk a.aB):ca a b=some (decide (a=b)):=by
 unfold ca
 rw [ref_resp_eq c]
 obtain⟨f,t,⟨n,d⟩,⟨x,y,z⟩,r⟩:=a
 obtain⟨g,t',⟨i,e⟩,⟨k,l,m⟩,j⟩:=b
 simp only [zb,ah.mk.injEq,av.mk.injEq,aw.mk.injEq,BS,Ac,beq_iff_eq]
 repeat' split
 all_goals first|(simp_all;done)|grind
theorem eps_eq{l m:List Epoch}(hl:EOk l):bB l m=some (decide (l=m)):=by
 have b:=hl.1
 unfold bB
 by_cases h:l.length=m.length
 ·rw [if_neg so, fd (l := l) (m := m) (u := .inl ()) (r := .inr false) h (fun i hi a => by
   unfold bN
   rw [if_pos (decide_eq_true om),dR rfl hi,zb,dR rfl a,zb,w64 om om,epoch_eq (hl.2 _ (Ah hi))]
   by_cases e:l[i]=m[i]<;>simp [e]) (by
   unfold bN
   rw [if_neg sm]),zb]
  by_cases e:l=m<;>simp [e]
 ·rw [if_pos so,ne_len h]
theorem chan_eq{a b:Chan}(c:EOk a.al):dl a b=some (decide (a=b)):=by
 unfold dl
 rw [eps_eq c,eqs]
 obtain⟨s,l⟩:=a
 obtain⟨s',f⟩:=b
 simp only [zb,aa.mk.injEq]
 by_cases e:s=s'<;>simp [e]
theorem chans_eq{l m:List Chan}(hl:IOk l):bJ l m=some (decide (l=m)):=by
 have b:=hl.1
 unfold bJ
 by_cases h:l.length=m.length
 ·rw [if_neg so, fd (l := l) (m := m) (u := .inl ()) (r := .inr false) h (fun i hi a => by
   unfold b6
   rw [if_pos (decide_eq_true om),dR rfl hi,zb,dR rfl a,zb,w64 om om,chan_eq (hl.2 _ (Ah hi)).2]
   by_cases e:l[i]=m[i]<;>simp [e]) (by
   unfold b6
   rw [if_neg sm]),zb]
  by_cases e:l=m<;>simp [e]
 ·rw [if_pos so,ne_len h]
theorem inv_eq{l m:List Chan}(hl:IOk l):fk ⟨l⟩ ⟨m⟩=some (decide (l=m)):=by
 unfold fk
 simp only [chans_eq hl,zb]
theorem ref_eps_loop{a b:Chan}{s:Int}(c:EOk a.al)(h:a.al.length=b.al.length):cI (fw a b s) (0:Int)=some (if decide (a.al=b.al)=true then .inl s else .inr false):=by
 have g:=c.1
 exact fd (l := a.al) (m := b.al) h (fun i hi f => by
  unfold fw
  rw [if_pos (decide_eq_true om),dR rfl hi,zb,dR rfl f,zb,w64 om om,iH (c.2 _ (Ah hi))]
  by_cases e:a.al[i]=b.al[i]<;>simp [e]) (by
  unfold fw
  rw [if_neg sm])
theorem ref_inv_eq{l m:List Chan}(hl:IOk l):gT ⟨l⟩ ⟨m⟩=some (decide (l=m)):=by
 have j:=hl.1
 unfold gT
 by_cases h:l.length=m.length
 ·rw [if_neg so, fd (l := l) (m := m) (u := .inl ()) (r := .inr false) h (fun i hi c => by
   unfold gV
   simp only
   rw [if_pos (decide_eq_true om),dR rfl hi,zb,dR rfl c,zb,eqs]
   have he:=(hl.2 _ (Ah hi)).2
   by_cases e:l[i].aj=m[i].aj
   ·rw [if_neg (by simp [e])]
    by_cases e2:l[i].al.length=m[i].al.length
    ·rw [if_neg so,ref_eps_loop he e2,zb]
     have b:(l[i]=m[i])↔l[i].al=m[i].al:=⟨fun h=>by rw [h],fun h=>by cases f:l[i];cases g:m[i];simp only [f,g]at e h;rw [e,h]⟩
     by_cases a:l[i].al=m[i].al
     ·simp only [b,a,decide_true,if_true,w64 (show(-9223372036854775808:Int)<=(i:Int)+1 by omega) om];rfl
     ·simp only [b,a,decide_false,if_false,Aj]
    ·rw [if_pos so,if_neg (by simp only [decide_eq_true_eq];intro h;exact e2 (by rw [h]))]
   ·rw [if_pos (by simp [e]),if_neg (by simp only [decide_eq_true_eq];intro h;exact e (by rw [h]))]) (by
   unfold gV
   rw [if_neg sm]),zb]
  by_cases e:l=m<;>simp [e]
 ·rw [if_pos so,ne_len h]
end Go.Dw.Ix
set_option maxRecDepth 100000
set_option maxHeartbeats 4000000
namespace Go.Dw.Ix.Sx
open Go.Dw
abbrev Dice:=ae
abbrev Src:=ac
def aV(d:Dice):Prop:=0<=d.fAt∧d.fAt<=d.fL.length∧d.fL.length<=1000000
theorem aT{k:Int}{d:Dice}(hk:1<=k)(o:k<=1000000)(hd:aV d):∃v c,aN k d=some (v,c)∧0<=v∧v<k∧aV c:=by
 obtain⟨f,h1,g⟩:=hd
 unfold aN
 by_cases i:d.fAt>=(d.fL.length:Int)
 ·rw [if_pos (decide_eq_true i)]
  exact⟨0,d,rfl,CW _,om,f,h1,g⟩
 rw [if_neg (by simpa using i),if_neg so]
 have l:jB d.fL d.fAt=some (d.fL[d.fAt.toNat]'om):=by
  unfold jB
  rw [if_pos f,zc]
 rw [l]
 generalize d.fL[d.fAt.toNat]'om=n
 have hw:CH .i64 (d.fAt+1)=d.fAt+1:=IntWalk.i64_in _ om
 have a:aV (ae.mk d.fL (CH .i64 (d.fAt+(1:Int)))):=by
  rw [hw];exact⟨za,za,g⟩
 have p:rb n k=some (n.tmod k):=by unfold rb;rw [if_neg om]
 have hl:n.tmod k<k:=C0 _ om
 have m: -k<n.tmod k:=by
  rcases CX 0 n with h|h
  ·have:=C1 k h;omega
  ·have e:n.tmod k= -((-n).tmod k):=by rw [CZ];omega
   have:=C0 (-n) (show 0<k by omega)
   omega
 simp only [zb,p]
 by_cases j:n.tmod k<0
 ·rw [if_pos (decide_eq_true j)]
  have b:CH .i64 (n.tmod k+k)=n.tmod k+k:=IntWalk.i64_in _ om
  exact⟨_,_,rfl,by rw [b];omega,by rw [b];omega,a⟩
 ·rw [if_neg (by simpa using j)]
  exact⟨_,_,rfl,om,hl,a⟩
theorem ep{α:Type}{l:List α}{n:Int}(a:0<=n)(h1:n<l.length):∃x,x∈l∧jB l n=some x:=by
 refine⟨l[n.toNat]'om,Ah _,?_⟩
 unfold jB
 rw [if_pos a,zc]
def nets:List (List UInt8):=[[71,82],[88],[55,65]]
def stas:List (List UInt8):=[[70,85,82],[65],[65,66,67,68,69],[70,85]]
def locs:List (List UInt8):=[[],[48,48],[49,48]]
def chas:List (List UInt8):=[[72,72,90],[72,72,78],[66,72,90]]
def iL(a:Src):Prop:=a.aD∈nets∧a.aC∈stas∧a.au∈locs∧a.aF∈chas
theorem ji{d:Dice}(hd:aV d):∃a b,cZ d=some (a,b)∧iL a∧aV b:=by
 obtain⟨v1,d1,c,g,u1,hd⟩:=aT (k:=3) om om hd
 obtain⟨v2,d2,e2,i,u2,hd⟩:=aT (k:=4) om om hd
 obtain⟨v3,d3,e,j,n,hd⟩:=aT (k:=3) om om hd
 obtain⟨v4,d4,f,m,o,hd⟩:=aT (k:=3) om om hd
 obtain⟨p,m1,g1⟩:=ep (l:=nets) g u1
 obtain⟨x2,m2,g2⟩:=ep (l:=stas) i u2
 obtain⟨q,m3,g3⟩:=ep (l:=locs) j n
 obtain⟨r,m4,g4⟩:=ep (l:=chas) m o
 unfold nets at g1;unfold stas at g2;unfold locs at g3;unfold chas at g4
 refine⟨⟨p,x2,q,r⟩,d4,?_,⟨m1,m2,m3,m4⟩,hd⟩
 simp only [cZ,c,g1,e2,g2,e,g3,f,g4,zb]
theorem eq_src(a b:Src):((a.aD==b.aD)&&((a.aC==b.aC)&&((a.au==b.au)&&((a.aF==b.aF)&&true))))=decide (a=b):=by
 obtain⟨n,t,l,c⟩:=a
 obtain⟨k,t',j,e⟩:=b
 simp only [ac.mk.injEq]
 by_cases f:n=k<;>by_cases e2:t=t'<;>by_cases g:l=j<;>by_cases i:c=e<;>simp [f,e2,g,i]
theorem roll_ok{t:List Int}(h:t.length<=500):∃d,jg t=some d∧aV d:=⟨⟨t,0⟩,rfl,sm,sm,za⟩
theorem cmp_str(a b:List UInt8):aW a b=some (ly a b):=by
 unfold aW dp
 simp only [beq_self_eq_true,Cx,zb,Aj,if_false]
 unfold ly
 cases h:Op.bytesLess a b with
 |true=>simp
 |false=>by_cases e:a=b<;>simp [e]
theorem gz{l:List Int}{i j:Nat}(b:j=i+1)(hi:i<l.length)(hl:l.length<1000)(a:l[i]=0):a7 l i=some (.next (j:Int)):=by
 subst b
 unfold a7
 rw [if_pos so,dR rfl hi]
 simp only [zb,a,w64 (n:=(i:Int)+1) om om]
 rfl
theorem gA{l:List Int}{i:Nat}(hi:i<l.length)(a:l[i]≠0):a7 l i=some (.stop (.inr l[i])):=by
 unfold a7
 rw [if_pos so,dR rfl hi]
 simp only [zb]
 rw [if_pos (by simpa using a)]
theorem or_end{l:List Int}{n:Nat}(a:n=l.length):a7 l n=some (.stop (.inl ())):=by
 subst a
 unfold a7
 rw [if_neg sm]
theorem or4(a b c d:Int):fJ [a,b,c,d]=some (if a≠0 then a else if b≠0 then b else if c≠0 then c else d):=by
 show((cI (a7 [a,b,c,d]) ((0:Nat):Int)).bind _)=_
 by_cases e:a=0
 ·rw [kI (gz (i:=0) (j:=1) rfl sm sm (by simpa using e)),if_neg (by simpa using e)]
  by_cases hb:b=0
  ·rw [kI (gz (i:=1) (j:=2) rfl sm sm (by simpa using hb)),if_neg (by simpa using hb)]
   by_cases hc:c=0
   ·rw [kI (gz (i:=2) (j:=3) rfl sm sm (by simpa using hc)),if_neg (by simpa using hc)]
    by_cases hd:d=0
    ·rw [kI (gz (i:=3) (j:=4) rfl sm sm (by simpa using hd)),kf (or_end (n:=4) rfl)]
     rw [hd];rfl
    ·rw [kf (gA (i:=3) sm (by simpa using hd))];rfl
   ·rw [kf (gA (i:=2) sm (by simpa using hc)),if_pos hc];rfl
  ·rw [kf (gA (i:=1) sm (by simpa using hb)),if_pos hb];rfl
 ·rw [kf (gA (i:=0) sm (by simpa using e)),if_pos (by simpa using e)];rfl
def bU(a b:Src):Int:=if ly a.aD b.aD≠0 then ly a.aD b.aD else if ly a.aC b.aC≠0 then ly a.aC b.aC else if ly a.au b.au≠0 then ly a.au b.au else ly a.aF b.aF
theorem fI(a b:Src):bv a b=some (bU a b):=by
 unfold bv
 simp only [cmp_str,zb,or4]
 rfl
theorem cJ:Tot bU:=(nd.map fun x:Src=>x.aD).or ((nd.map fun x:Src=>x.aC).or ((nd.map fun x:Src=>x.au).or (nd.map fun x:Src=>x.aF)))
theorem cmpS_zero{a b:Src}(h:bU a b=0):a=b:=by
 unfold bU at h
 obtain⟨n,t,l,c⟩:=a
 obtain⟨i,t',g,j⟩:=b
 simp only at h
 by_cases h1:ly n i=0
 ·rw [if_neg (by simpa using h1)]at h
  by_cases e:ly t t'=0
  ·rw [if_neg (by simpa using e)]at h
   by_cases f:ly l g=0
   ·rw [if_neg (by simpa using f)]at h
    rw [pk]at h h1 e f
    subst h h1 e f;rfl
   ·rw [if_pos f]at h;exact(f h).elim
  ·rw [if_pos e]at h;exact(e h).elim
 ·rw [if_pos h1]at h;exact(h1 h).elim
theorem eqs(a b:Src):((a.aD==b.aD)&&((a.aC==b.aC)&&((a.au==b.au)&&((a.aF==b.aF)&&true))))=decide (a=b):=by
 rw [eq_src]
theorem eH{s:List UInt8}{n:Int}{i:Nat}(a:n=i)(hi:i<s.length):lr s n=some ((s[i].toNat:Nat):Int):=by
 subst a
 unfold lr
 rw [if_pos ⟨om,om⟩,B5,Bu,zc hi];rfl
theorem dX{α:Type}{l:List α}{a b:Int}{i j:Nat}(c:a=i)(hb:b=j)(h1:i<=j)(e:j<=l.length):lP l a b=some ((l.drop i).take (j-i)):=by
 subst c hb
 unfold lP
 rw [if_pos ⟨om,om,om⟩,B5,B5]
theorem jd{a b:List UInt8}(h:a.length+b.length<=9223372036854775807):rY a b=some (a++b):=by
 unfold rY
 rw [if_pos om]
theorem bA{α:Type}{l m:List α}{b:Nat}(h:(l.length+m.length)*b<=140737488355328):lu l m b=some (l++m):=by
 unfold lu
 rw [if_pos h]
theorem cw{α ω:Type}{body:Int->Option (jY Int ω)}(l:List α){p:α->Bool}{u r:ω}(h1:∀(i:Nat)(hi:i<l.length),body i=if p l[i]=true then some (.next ((i+1:Nat):Int))else some (.stop r))
  (c:body (l.length:Nat)=some (.stop u)):cI body (0:Int)=some (if l.all p=true then u else r):=by
 have:∀k i,i+k=l.length->cI body (i:Int)=some (if(l.drop i).all p=true then u else r):=by
  intro k
  induction k with
  |zero=>
   intro i hi
   obtain rfl:i=l.length:=by omega
   rw [kf c];simp
  |succ k e=>
   intro i hi
   have a:i<l.length:=by omega
   rw [Ca a,C2]
   by_cases b:p l[i]=true
   ·rw [kI (by rw [h1 i a,if_pos b]),e (i+1) om,b,Cy]
   ·rw [kf (by rw [h1 i a,if_neg b])];simp [b]
 have:=this l.length 0 om
 simpa using this
def cU(c:UInt8):Bool:=(decide (65<=c.toNat)&&decide (c.toNat<=90))||(decide (48<=c.toNat)&&decide (c.toNat<=57))
theorem dec1(n:Nat):decide ((n:Int)>=65)=decide (65<=n):=decide_eq_decide.2 om
theorem dec2(n:Nat):decide ((n:Int)<=90)=decide (n<=90):=decide_eq_decide.2 om
theorem dec3(n:Nat):decide ((n:Int)>=48)=decide (48<=n):=decide_eq_decide.2 om
theorem dec4(n:Nat):decide ((n:Int)<=57)=decide (n<=57):=decide_eq_decide.2 om
theorem jN(c:UInt8):dH ((c.toNat:Nat):Int)=some (cU c):=by
 unfold dH cU
 rw [dec1,dec2,dec3,dec4]
 cases decide (65<=c.toNat)<;>cases decide (c.toNat<=90)<;>cases decide (48<=c.toNat)<;>simp
def bq(s:List UInt8)(a hi:Int):Bool:=s.all cU&&(decide ((s.length:Int)>=a)&&decide ((s.length:Int)<=hi))
theorem code_l7{s:List UInt8}(a:s.length<=9223372036854775807):cI (cv s) (0:Int)=some (if s.all cU=true then .inl ()else .inr false):=by
 refine cw s (fun i hi=>?_) ?_
 ·unfold cv
  rw [if_pos so,eH rfl hi,w64 om om]
  simp only [zb,jN]
  cases cU s[i]<;>simp
 ·unfold cv
  rw [if_neg sm]
theorem gx{s:List UInt8}(b:s.length<=9223372036854775807)(a hi:Int):cu s a hi=some (bq s a hi):=by
 unfold cu bq
 rw [code_l7 b]
 cases s.all cU with
 |true=>cases decide ((s.length:Int)>=a)<;>simp
 |false=>rfl
theorem iG{s:List UInt8}(a:s.length<=9223372036854775807):cI (cM s) (0:Int)=some (if s.all cU=true then .inl ()else .inr false):=by
 refine cw s (fun i hi=>?_) ?_
 ·unfold cM
  rw [if_pos so,eH rfl hi,w64 om om]
  simp only [zb,dec1,dec2,dec3,dec4]
  unfold cU
  cases decide (65<=s[i].toNat)<;>cases decide (s[i].toNat<=90)<;>cases decide (48<=s[i].toNat)<;>cases decide (s[i].toNat<=57)<;>simp
 ·unfold cM
  rw [if_neg sm]
theorem cE{s:List UInt8}(b:s.length<=9223372036854775807)(a hi:Int):cL s a hi=some (bq s a hi):=by
 unfold cL bq
 rw [iG b]
 cases s.all cU with
 |true=>cases decide ((s.length:Int)>=a)<;>simp
 |false=>rfl
def iM(x:Src):Prop:=x.aD.length<=9223372036854775807∧x.aC.length<=9223372036854775807∧x.au.length<=9223372036854775807∧x.aF.length<=9223372036854775807
def bw(x:Src):Bool:=bq x.aD 1 2&&(bq x.aC 1 5&&(bq x.au 0 2&&(decide (x.au.length≠1)&&bq x.aF 3 3)))
theorem Valid_eq{x:Src}(f:iM x):cC x=some (bw x):=by
 obtain⟨h1,a,b,c⟩:=f
 unfold cC bw
 simp only [gx h1,gx a,gx b,gx c,zb]
 have e:((x.au.length:Int) != 1)=decide (x.au.length≠1):=by
  by_cases h:x.au.length=1
  ·simp [h]
  ·simp [h];omega
 rw [e]
 cases bq x.aD 1 2<;>cases bq x.aC 1 5<;>cases bq x.au 0 2<;>cases decide (x.au.length≠1)<;>simp
theorem loc_eq(s:List UInt8):(bq s 0 2&&decide (s.length≠1))=(decide (s=[])||bq s 2 2):=by
 unfold bq
 match s with
 | []=>simp
 | [a]=>simp
 | [a,b]=>simp
 |a::b::c::r=>
  have h1:decide (((a::b::c::r).length:Int)<=2)=false:=by simp;omega
  rw [h1];simp
theorem gE{x:Src}(f:iM x):du x=some (bw x):=by
 obtain⟨h1,a,b,c⟩:=f
 unfold du bw
 simp only [cE h1,cE a,cE b,cE c,zb]
 rw [<-Cv (bq x.au 0 2),loc_eq]
 by_cases e:x.au=[]
 ·cases bq x.aD 1 2<;>cases bq x.aC 1 5<;>simp [e]
 ·cases bq x.aD 1 2<;>cases bq x.aC 1 5<;>cases bq x.au 2 2<;>simp [e]
theorem eo{s:List UInt8}{a:Int}{hi:Nat}(h:bq s a hi=true):s.length<=hi:=by
 unfold bq at h
 simp only [Ac,decide_eq_true_eq]at h
 omega
theorem valid_len{x:Src}(h:bw x=true):x.aD.length<=2∧x.aC.length<=5∧x.au.length<=2∧x.aF.length<=3:=by
 unfold bw at h
 simp only [Ac]at h
 exact⟨eo (hi:=2) h.1,eo (hi:=5) h.2.1,eo (hi:=2) h.2.2.1,eo (hi:=3) h.2.2.2.2⟩
theorem splitL_ne(c:UInt8):∀s,kj c s≠ []
 | []=>by simp [kj]
 |x::r=>by
  unfold kj
  split
  ·simp
  ·split<;>simp
theorem splitL_cons(c x:UInt8)(r:List UInt8):∃q a,kj c r=q::a∧kj c (x::r)=if x=c then []::q::a else(x::q)::a:=by
 match h:kj c r with
 | []=>exact(splitL_ne c r h).elim
 |q::a=>refine⟨q,a,rfl,?_⟩;rw [kj,h]
theorem jG(c:UInt8):∀s,(kj c s).length<=s.length+1∧∀p∈kj c s,p.length<=s.length
 | []=>by simp [kj]
 |x::r=>by
  obtain⟨q,g,h1,f⟩:=splitL_cons c x r
  obtain⟨e,b⟩:=jG c r
  rw [h1]at e b
  rw [f]
  split
  ·refine⟨by simp at e⊢;omega,fun p a=>?_⟩
   rcases List.mem_cons.1 a with rfl|a
   ·simp
   ·have:=b p a;simp;omega
  ·refine⟨by simp at e⊢;omega,fun p a=>?_⟩
   rcases List.mem_cons.1 a with rfl|a
   ·have:=b q sm;simp;omega
   ·have:=b p (by simp [a]);simp;omega
theorem u46(c:UInt8):(((c.toNat:Nat):Int)==46)=decide (c=46):=by
 by_cases h:c=46
 ·subst h;rfl
 ·have:c.toNat≠46:=fun e=>h (UInt8.toNat_inj.1 e)
  simp [h];omega
theorem ref_Split_eq{s:List UInt8}(t:s.length<=4000000000):hU s 46=some (kj 46 s):=by
 obtain ⟨o, h1, g⟩ := kY (body := gm s 46) (fun st : Int × List (List UInt8) => ∃ (i : Nat) (init : List (List UInt8)) (last p : List UInt8) (b : List (List UInt8)), st = ((i : Int), init ++ [last]) ∧ i ≤ s.length ∧ init.length ≤ i ∧ last.length ≤ i ∧
   kj 46 (s.drop i)=p::b∧kj 46 s=init++(last++p)::b) (fun st=>((s.length:Int)-st.1).toNat) (fun o=>o=kj 46 s) (by
  rintro st ⟨i,init,last,p,b,rfl,hi,l,m,f,a⟩
  unfold gm
  simp only
  by_cases c:i<s.length
  ·rw [if_pos so,eH rfl c,zb,w64 (n:=(i:Int)+1) om om]
   have hd:s.drop i=s[i]::s.drop (i+1):=Ca c
   obtain⟨q,r,g1,g2⟩:=splitL_cons 46 s[i] (s.drop (i+1))
   rw [<-hd,f]at g2
   refine .inl ?_
   by_cases hc:s[i]=46
   ·rw [if_pos (by rw [u46];simpa using hc),bA so,zb]
    rw [if_pos hc]at g2
    obtain⟨rfl,rfl⟩:=List.cons.inj g2
    exact⟨_,rfl,⟨i+1,init++[last],[],q,r,sm,om,so,sm,g1,by rw [a];simp⟩,za⟩
   ·rw [if_neg (by rw [u46];simpa using hc)]
    rw [if_neg hc]at g2
    obtain⟨rfl,rfl⟩:=List.cons.inj g2
    have hlen:(init++[last]).length=init.length+1:=by simp
    have k:(init++[last])[init.length]'sm=last:=by simp
    rw [w64 om om,lY om om,dR (i:=init.length) om om,k]
    simp only [zb]
    rw [dX (i:=i) (j:=i+1) rfl om om om,zb]
    have ht:(s.drop i).take (i+1-i)=[s[i]]:=by rw [hd,show i+1-i=1 by omega];rfl
    rw [ht,jd so,zb,uW (i:=init.length) om om]
    have e:(init++[last]).set init.length (last++[s[i]])=init++[last++[s[i]]]:=by
     rw [Cp _ _ (AB _)];simp
    rw [e]
    exact⟨_,rfl,⟨i+1,init,last++[s[i]],q,b,sm,om,om,so,g1,by rw [a];simp⟩,za⟩
  ·rw [if_neg so]
   refine .inr ⟨_,rfl,?_⟩
   rw [a]
   rw [Cb om]at f
   cases f
   simp) (0,[[]]) (by
   match h:kj 46 s with
   | []=>exact(splitL_ne 46 s h).elim
   |p::b=>exact⟨0,[],[],p,b,rfl,om,sm,sm,by simpa using h,sm⟩)
 unfold hU
 rw [h1,g];rfl
theorem splitO_eq{s:List UInt8}(a:s.length<=4000000000):u7 s [46]=some (kj 46 s):=by
 show(if s.length<4294967281 then some (kj 46 s)else none)=_
 rw [if_pos om]
theorem four{α:Type}{l:List α}(h:l.length=4):∃a b c d,l=[a,b,c,d]:=by
 match l,h with
 | [a,b,c,d],_=>exact⟨a,b,c,d,rfl⟩
theorem getO4{α:Type}(a b c d:α):jB [a,b,c,d] 0=some a∧jB [a,b,c,d] 1=some b∧jB [a,b,c,d] 2=some c∧jB [a,b,c,d] 3=some d:=⟨rfl,rfl,rfl,rfl⟩
def wildB(c:UInt8):Bool:=cU c||(c==63||c==42)
def iO(p:List UInt8):Bool:=p.all wildB&&decide (p.length<=8)
theorem u63(c:UInt8):(((c.toNat:Nat):Int) != 63)= !(c==63):=by
 by_cases h:c=63
 ·subst h;rfl
 ·have:c.toNat≠63:=fun e=>h (UInt8.toNat_inj.1 e)
  have a:(c==63)=false:=by simpa using h
  rw [a];simp;omega
theorem u42(c:UInt8):(((c.toNat:Nat):Int) != 42)= !(c==42):=by
 by_cases h:c=42
 ·subst h;rfl
 ·have:c.toNat≠42:=fun e=>h (UInt8.toNat_inj.1 e)
  have a:(c==42)=false:=by simpa using h
  rw [a];simp;omega
theorem pat_l17{p:List UInt8}(a:p.length<=4000000000)(j:Int):cI (dF p j) (0:Int)=some (if p.all wildB=true then .inl j else .inr ([],false)):=by
 refine cw p (fun i hi=>?_) ?_
 ·unfold dF wildB
  rw [if_pos so,eH rfl hi,w64 om om]
  simp only [zb,jN,u63,u42]
  cases cU p[i]<;>cases p[i]==63<;>cases p[i]==42<;>simp
 ·unfold dF
  rw [if_neg sm]
theorem pat_l22{l:List (List UInt8)}(hl:l.length<=4000000001)(c:∀p∈l,p.length<=4000000000):cI (dG l) (0:Int)=some (if l.all iO=true then .inl ()else .inr ([],false)):=by
 refine cw l (fun i hi=>?_) ?_
 ·unfold dG iO
  rw [if_pos so,dR rfl hi,zb,pat_l17 (c _ (Ah hi)),zb]
  cases h:l[i].all wildB with
  |false=>simp
  |true=>
   by_cases b:l[i].length<=8
   ·have a:decide ((l[i].length:Int)>8)=false:=by simp;omega
    simp only [if_true,a,Aj,if_false]
    rw [w64 om om]
    simp [b]
   ·have a:decide ((l[i].length:Int)>8)=true:=by simp;omega
    simp [b,a]
 ·unfold dG
  rw [if_neg sm]
theorem pattern_eq{z:List UInt8}(c:z.length<=4000000000):
  ek z=some (if(kj 46 z).all iO=true then(kj 46 z,((kj 46 z).length:Int)==4)else([],false)):=by
 obtain⟨h1,a⟩:=jG 46 z
 unfold ek
 rw [splitO_eq c,zb,pat_l22 om (fun p b=>by have:=a p b;omega),zb]
 cases(kj 46 z).all iO<;>rfl
def nw(c:UInt8):Bool:= !(c==42)&& !(c==63)
theorem parts_l30{l:List (List UInt8)}{j:Nat}(c:j<l.length)(e:l[j].length<=4000000000):cI (dL l j) (([]:List UInt8),(0:Int))=some ((j:Int),l[j].filter nw):=by
 obtain ⟨o, h1, b⟩ := kY (body := dL l j) (fun st : List UInt8 × Int => ∃ i : Nat, st = ((l[j].take i).filter nw, (i : Int)) ∧ i ≤ l[j].length) (fun st => ((l[j].length : Int) - st.2).toNat) (fun o => o = ((j : Int), l[j].filter nw)) (by
  rintro st ⟨i,rfl,hi⟩
  unfold dL
  simp only
  simp only [dR (l:=l) (i:=j) rfl c,zb]
  by_cases a:i<l[j].length
  ·rw [if_pos so,eH rfl a,w64 om om]
   simp only [zb,u42,u63]
   have hlen:((l[j].take i).filter nw).length<=i:=AO (Ck _ _) so
   rw [dX (i:=i) (j:=i+1) rfl om om om]
   have ht:(l[j].drop i).take (i+1-i)=[l[j][i]]:=by rw [Ca a,show i+1-i=1 by omega];rfl
   rw [ht,zb,jd so]
   have hf:(l[j].take (i+1)).filter nw=(l[j].take i).filter nw++(if nw l[j][i]=true then [l[j][i]]else []):=by
    rw [kK a,Cd]
    by_cases h:nw l[j][i]=true
    ·simp [h]
    ·simp [h]
   refine .inl ⟨((l[j].take (i+1)).filter nw,((i+1:Nat):Int)),?_,⟨i+1,rfl,om⟩,za⟩
   rw [hf]
   unfold nw
   cases l[j][i]==42<;>cases l[j][i]==63<;>simp
  ·rw [if_neg so]
   refine .inr ⟨_,rfl,?_⟩
   rw [Cu om]) ([],0) ⟨0,sm,AL _⟩
 rw [h1,b]
theorem filt_all(p:List UInt8):(p.filter nw).all cU=p.all wildB:=by
 induction p with
 |nil=>rfl
 |cons c p b=>
  rw [C2, <-b]
  unfold nw wildB
  cases h1:c==42<;>cases a:c==63<;>simp [Ce,h1,a]
theorem parts_l38{l:List (List UInt8)}(f:l.length=4)(e:∀p∈l,p.length<=4000000000):cI (eO l) (0:Int)=some (if l.all iO=true then .inl ()else .inr ([],false)):=by
 refine cw l (fun i hi=>?_) ?_
 ·have a:=e _ (Ah hi)
  have c:(l[i].filter nw).length<=l[i].length:=Ck _ _
  unfold eO iO
  rw [if_pos so,parts_l30 hi a,zb,dR (i:=i) rfl hi]
  simp only [zb]
  by_cases b:l[i].length<=8
  ·rw [if_neg so,cE om,zb,w64 om om]
   have hc:bq (l[i].filter nw) 0 8=l[i].all wildB:=by
    unfold bq
    rw [filt_all]
    have:decide (((l[i].filter nw).length:Int)<=8)=true:=by simp only [decide_eq_true_eq];omega
    rw [this]
    simp
   rw [hc]
   cases l[i].all wildB<;>simp [b]
  ·rw [if_pos so]
   simp [b]
 ·unfold eO
  rw [if_neg so]
theorem parts_eq{z:List UInt8}(f:z.length<=4000000000):
  ge z=some (if(kj 46 z).length=4∧(kj 46 z).all iO=true then(kj 46 z,true)else([],false)):=by
 obtain⟨h1,c⟩:=jG 46 z
 unfold ge
 rw [ref_Split_eq f,zb]
 by_cases a:(kj 46 z).length=4
 ·have b:(((kj 46 z).length:Int) != 4)=false:=by rw [a];rfl
  rw [if_neg (by rw [b];simp),parts_l38 a (fun p e=>by have:=c p e;omega),zb]
  cases(kj 46 z).all iO<;>simp [a]
 ·have b:(((kj 46 z).length:Int) != 4)=true:=by simp;omega
  rw [if_pos b,if_neg (fun h=>a h.1)]
def patB(z:List UInt8):Bool:=decide ((kj 46 z).length=4)&&(kj 46 z).all iO
theorem pat_pair{z:List UInt8}(g:z.length<=4000000000):∃i j,ek z=some (i,patB z)∧ge z=some (j,patB z)∧(patB z=true->∃a b c d,i=[a,b,c,d]∧j=[a,b,c,d]∧a.length<=8∧b.length<=8∧c.length<=8∧d.length<=8):=by
 rw [pattern_eq g,parts_eq g]
 unfold patB
 by_cases e:(kj 46 z).length=4
 ·have f:(((kj 46 z).length:Int)==4)=true:=by rw [e];rfl
  cases h:(kj 46 z).all iO with
  |true=>
   refine⟨kj 46 z,kj 46 z,by simp [f,e],by simp [e],fun _=>?_⟩
   obtain⟨a,b,c,d,hl⟩:=four e
   rw [hl]at h
   simp only [C2,List.all_nil,BS,Ac,iO,decide_eq_true_eq]at h
   exact⟨a,b,c,d,hl,hl,h.1.2,h.2.1.2,h.2.2.1.2,h.2.2.2.2⟩
  |false=>exact⟨[],[],sm,sm,sm⟩
 ·have f:(((kj 46 z).length:Int)==4)=false:=by simp;omega
  cases h:(kj 46 z).all iO with
  |true=>exact⟨kj 46 z,[],by simp [f,e],by simp [e],by simp [e]⟩
  |false=>exact⟨[],[],sm,sm,sm⟩
def aY:List UInt8->List UInt8->Bool
 | [],s=>s.isEmpty
 |c::p,s=>if c=42 then(AI (s.length+1)).any (fun i=>aY p (s.drop i))else match s with| []=>false|d::t=>(decide (c=63)||decide (c=d))&&aY p t
theorem dx(c:UInt8)(p s:List UInt8):aY (c::p) s=if c=42 then(AI (s.length+1)).any (fun i=>aY p (s.drop i))else match s with| []=>false|d::t=>(decide (c=63)||decide (c=d))&&aY p t:=by
 cases s<;>rfl
theorem e42(c:UInt8):(((c.toNat:Nat):Int)==42)=decide (c=42):=by
 have:=u42 c
 by_cases h:c=42
 ·subst h;rfl
 ·have:c.toNat≠42:=fun e=>h (UInt8.toNat_inj.1 e)
  simp [h];omega
theorem e63(c:UInt8):(((c.toNat:Nat):Int)==63)=decide (c=63):=by
 by_cases h:c=63
 ·subst h;rfl
 ·have:c.toNat≠63:=fun e=>h (UInt8.toNat_inj.1 e)
  simp [h];omega
theorem ecd(c d:UInt8):(((c.toNat:Nat):Int)==((d.toNat:Nat):Int))=decide (c=d):=by
 by_cases h:c=d
 ·subst h;simp
 ·have:c.toNat≠d.toNat:=fun e=>h (UInt8.toNat_inj.1 e)
  simp [h];omega
theorem byte0(c:UInt8)(p:List UInt8):lr (c::p) 0=some ((c.toNat:Nat):Int):=eH (i:=0) rfl sm
theorem cut1(c:UInt8)(p:List UInt8):lP (c::p) 1 (((c::p).length:Nat):Int)=some p:=by
 have:=dX (l:=c::p) (a:=1) (b:=(((c::p).length:Nat):Int)) (i:=1) (j:=(c::p).length) rfl rfl sm (AB _)
 rw [this]
 simp
theorem fitsN_eq:∀(n:Nat)(p s:List UInt8),p.length+s.length<n->bh n p s=some (aY p s):=by
 intro n
 induction n with
 |zero=>intro p s h;omega
 |succ n e=>
  intro p s h
  unfold bh
  match p with
  | []=>cases s<;>simp [aY]
  |c::p=>
   rw [if_neg sm,byte0,cut1]
   simp only [zb,e42,e63]
   simp only [AY]at h
   by_cases h1:c=42
   ·rw [if_pos (by simpa using h1),e p s om,zb]
    have hf:aY (c::p) s=(AI (s.length+1)).any (fun i=>aY p (s.drop i)):=by rw [dx,if_pos h1]
    match s with
    | []=>rw [hf];cases a:aY p []<;>simp [a,Cn]
    |d::t=>
     have e2:bh n (c::p) t=some (aY (c::p) t):=e (c::p) t (by simp at h⊢;omega)
     have b:aY (c::p) t=(AI (t.length+1)).any (fun i=>aY p (t.drop i)):=by rw [dx,if_pos h1]
     rw [cut1 d t,hf,AY,Co (n:=t.length+1),C4,C7,Cc]
     cases f:aY p (d::t)with
     |true=>simp
     |false=>
      rw [if_neg sm,if_pos sm,zb,e2,zb,b]
      simp [Function.comp_def]
   ·rw [if_neg (by simpa using h1)]
    match s with
    | []=>simp [aY,h1]
    |d::t=>
     rw [if_pos sm,cut1,byte0]
     simp only [zb,ecd,e p t (by simp at h⊢;omega)]
     have hf:aY (c::p) (d::t)=((decide (c=63)||decide (c=d))&&aY p t):=by rw [dx,if_neg h1]
     rw [hf]
     by_cases a:c=63<;>by_cases f:c=d<;>simp [a,f]
theorem fits_eq(p s:List UInt8):df p s=some (aY p s):=Le.tw (fun n=>gu n p s) (p.length+s.length+1) _ (fitsN_eq _ p s om)
theorem likeN_eq:∀(n:Nat)(p s:List UInt8),p.length<n->s.length<=9223372036854775800->bR n p s=some (aY p s):=by
 intro n
 induction n with
 |zero=>intro p s h;omega
 |succ n e=>
  intro p s h f
  unfold bR
  match p with
  | []=>cases s<;>simp [aY]
  |c::p=>
   rw [if_neg sm,byte0,cut1]
   simp only [zb,e42,e63]
   simp only [AY]at h
   by_cases h1:c=42
   ·rw [if_pos (by simpa using h1)]
    have hl:cI (bY s (c::p) (bR n)) (0:Int)=some (if(AI (s.length+1)).all (fun i=> !aY p (s.drop i))=true then .inl ()else .inr true):=by
     refine cw (AI (s.length+1)) (p:=fun i=> !aY p (s.drop i)) (fun i hi=>?_) ?_
     ·simp only [List.length_range]at hi
      unfold bY
      rw [if_pos so,cut1,zb,dX (i:=i) (j:=s.length) rfl rfl om (AB _),zb]
      rw [Cu sm,e p (s.drop i) om so,zb,List.getElem_range,w64 om om]
      cases aY p (s.drop i)<;>simp
     ·unfold bY
      rw [if_neg so]
    rw [hl,zb,dx,if_pos h1]
    cases a:(AI (s.length+1)).all (fun i=> !aY p (s.drop i))with
    |true=>
     have:(AI (s.length+1)).any (fun i=>aY p (s.drop i))=false:=by
      rw [C5]
      intro i hi
      have:=List.all_eq_true.1 a i hi
      simpa using this
     rw [this];rfl
    |false=>
     have:(AI (s.length+1)).any (fun i=>aY p (s.drop i))=true:=by
      rw [List.all_eq_false]at a
      obtain⟨i,hi,b⟩:=a
      exact List.any_eq_true.2 ⟨i,hi,by simpa using b⟩
     rw [this];rfl
   ·rw [if_neg (by simpa using h1)]
    match s with
    | []=>simp [aY,h1]
    |d::t=>
     rw [if_pos sm,cut1,byte0]
     simp only [zb,ecd,e p t om (by simp at f⊢;omega)]
     have hf:aY (c::p) (d::t)=((decide (c=63)||decide (c=d))&&aY p t):=by rw [dx,if_neg h1]
     rw [hf]
     by_cases a:c=63<;>by_cases b:c=d<;>simp [a,b]
theorem like_eq(p:List UInt8){s:List UInt8}(a:s.length<=9223372036854775800):eb p s=some (aY p s):=Le.tw (fun n=>iY n p s) (p.length+1) _ (likeN_eq _ p s om a)
def dB(a b c d:List UInt8)(x:Src):Bool:=aY a x.aD&&(aY b x.aC&&(aY c x.au&&aY d x.aF))
theorem match_eq(a b c d:List UInt8)(x:Src):eA [a,b,c,d] x=some (dB a b c d x):=by
 obtain⟨g0,g1,g2,g3⟩:=getO4 a b c d
 unfold eA gG dB
 simp only [g0,g1,g2,g3,zb,fits_eq]
 cases aY a x.aD<;>cases aY b x.aC<;>cases aY c x.au<;>cases aY d x.aF<;>rfl
theorem ref_match_eq(a b c d:List UInt8){x:Src}(e:bw x=true):hX [a,b,c,d] x=some (dB a b c d x):=by
 obtain⟨h1,f,g,i⟩:=valid_len e
 obtain⟨g0,g1,g2,g3⟩:=getO4 a b c d
 unfold hX dB
 simp only [g0,g1,g2,g3,zb,like_eq a (show x.aD.length<=9223372036854775800 by omega),like_eq b (show x.aC.length<=9223372036854775800 by omega),like_eq c (show x.au.length<=9223372036854775800 by omega),like_eq d (show x.aF.length<=9223372036854775800 by omega)]
 cases aY a x.aD<;>cases aY b x.aC<;>cases aY c x.au<;>cases aY d x.aF<;>rfl
end Go.Dw.Ix.Sx
set_option maxRecDepth 100000
set_option maxHeartbeats 4000000
namespace Go.Dw.Ix.Sx
open Go.Dw
theorem filter_take{l:List Src}{q:Src->Bool}{i:Nat}(hi:i<l.length):(l.take (i+1)).filter q=(l.take i).filter q++(if q l[i]=true then [l[i]]else []):=by
 rw [kK hi,Cd]
 by_cases h:q l[i]=true<;>simp [h]
theorem sel_l14{l:List Src}(hl:l.length<=1000)(f:∀x∈l,iM x)(a b c d:List UInt8)(ok:Bool):
  cI (d9 l ([a,b,c,d],ok)) ((0:Int),([]:List Src))=some (l.filter fun x=>bw x&&dB a b c d x):=by
 obtain⟨o,h1,g⟩:=kY (body:=d9 l ([a,b,c,d],ok)) (fun st:Int×List Src=>∃i:Nat,st=((i:Int),(l.take i).filter fun x=>bw x&&dB a b c d x)∧i<=l.length) (fun st=>((l.length:Int)-st.1).toNat)
  (fun o => o = l.filter fun x => bw x && dB a b c d x) (by
  rintro st ⟨i,rfl,hi⟩
  unfold d9
  simp only
  by_cases e:i<l.length
  ·have hlen:((l.take i).filter fun x=>bw x&&dB a b c d x).length<=i:=AO (Ck _ _) so
   rw [if_pos so,dR rfl e,w64 om om]
   simp only [zb,Valid_eq (f _ (Ah e)),match_eq]
   rw [bA (by simp only [AY,AZ];omega)]
   refine .inl ⟨(((i+1:Nat):Int),(l.take (i+1)).filter fun x=>bw x&&dB a b c d x),?_,⟨i+1,rfl,om⟩,za⟩
   rw [filter_take e]
   cases bw l[i]<;>cases dB a b c d l[i]<;>simp
  ·rw [if_neg so]
   refine .inr ⟨_,rfl,?_⟩
   rw [Cu om]) (0,[]) ⟨0,sm,AL _⟩
 rw [h1,g]
theorem ref_sel_l16{l:List Src}(hl:l.length<=1000)(f:∀x∈l,iM x)(a b c d:List UInt8)(ok:Bool):
  cI (ew l ([a,b,c,d],ok)) ((0:Int),([]:List Src))=some (l.filter fun x=>bw x&&dB a b c d x):=by
 obtain⟨o,h1,g⟩:=kY (body:=ew l ([a,b,c,d],ok)) (fun st:Int×List Src=>∃i:Nat,st=((i:Int),(l.take i).filter fun x=>bw x&&dB a b c d x)∧i<=l.length) (fun st=>((l.length:Int)-st.1).toNat)
  (fun o => o = l.filter fun x => bw x && dB a b c d x) (by
  rintro st ⟨i,rfl,hi⟩
  unfold ew
  simp only
  by_cases e:i<l.length
  ·have hlen:((l.take i).filter fun x=>bw x&&dB a b c d x).length<=i:=AO (Ck _ _) so
   rw [if_pos so,dR rfl e,w64 om om]
   simp only [zb,gE (f _ (Ah e))]
   rw [bA (by simp only [AY,AZ];omega)]
   refine .inl ⟨(((i+1:Nat):Int),(l.take (i+1)).filter fun x=>bw x&&dB a b c d x),?_,⟨i+1,rfl,om⟩,za⟩
   rw [filter_take e]
   cases j:bw l[i]with
   |false=>simp
   |true=>
    rw [ref_match_eq a b c d j]
    cases dB a b c d l[i]<;>simp
  ·rw [if_neg so]
   refine .inr ⟨_,rfl,?_⟩
   rw [Cu om]) (0,[]) ⟨0,sm,AL _⟩
 rw [h1,g]
theorem Select_eq{z:List UInt8}(i:z.length<=4000000000){l:List Src}(hl:l.length<=1000)(e:∀x∈l,iM x):∃r,gd z l=some r∧gB z l=some r∧r.1.length<=1000:=by
 obtain⟨j,k,f,e2,h⟩:=pat_pair i
 unfold gd gB
 rw [f,e2]
 simp only [zb]
 cases g:patB z with
 |false=>exact⟨_,rfl,rfl,sm⟩
 |true=>
  obtain⟨a,b,c,d,rfl,rfl, -⟩:=h g
  simp only [Cx,Aj,if_false,sel_l14 hl e,ref_sel_l16 hl e,zb]
  exact⟨_,rfl,rfl,AO (Ck _ _) hl⟩
theorem Same_refl{l:List Src}(hl:l.length<=1000):iE l l=some true:=by
 unfold iE
 rw [if_neg sm]
 have := cw (body := ga l l) l (p := fun _ => true) (u := .inl ()) (r := .inr false) (fun i hi => by
  unfold ga
  simp only [eqs]
  rw [if_pos so,dR rfl hi,w64 om om]
  simp) (by
  unfold ga
  rw [if_neg sm])
 rw [this]
 simp
theorem ref_cmp(a b:List UInt8):cn a b=some (ly a b):=by
 unfold cn ly
 cases h:Op.bytesLess a b with
 |true=>simp
 |false=>by_cases e:a=b<;>simp [e]
theorem gY(a b:Src):dg a b=some (bU a b):=by
 unfold dg bU
 simp only [ref_cmp,zb,bne_iff_ne,ne_eq]
 by_cases h1:ly a.aD b.aD=0<;>by_cases c:ly a.aC b.aC=0<;>by_cases e:ly a.au b.au=0<;>by_cases f:ly a.aF b.aF=0<;>simp [h1,c,e,f]
theorem shift_eq{out:List Src}{x:Src}{k:Nat}(hk:k<=out.length):
  (nM (out++[x]) (k+1) (out.length+1-(k+1)) (((out++[x]).drop k).take (out.length+1-k))).set k x=out.take k++x::out.drop k:=by
 have hd:(out++[x]).drop k=out.drop k++[x]:=C9 hk
 have b:((out++[x]).drop k).take (out.length+1-k)=out.drop k++[x]:=by
  rw [hd];exact Cu so
 unfold nM
 rw [b]
 have a:Nat.min (out.drop k++[x]).length (out.length+1-(k+1))=out.length-k:=by
  show min _ _=_
  simp
 rw [a]
 have ht:(out.drop k++[x]).take (out.length-k)=out.drop k:=by
  rw [Cs sm]
  exact Cu sm
 have e:(out++[x]).drop (k+1+(out.length-k))=[]:=Cb so
 rw [ht,e,BF]
 have c:(out++[x]).take (k+1)=out.take k++[(out++[x])[k]'so]:=by
  rw [kK so,Cs hk]
 rw [c,AE,Cp _ _ so]
 simp [As hk]
theorem ins_sorted{out:List Src}{x:Src}{k:Nat}(ho:out.Pairwise (fun x y=>bU x y<0))(hk:k<=out.length)(h1:∀j,(h:j<k)->(t:j<out.length)->bU out[j] x<0)
  (o:∀h:k<out.length,¬bU out[k] x<0∧out[k]≠x):(out.take k++x::out.drop k).Pairwise (fun x y=>bU x y<0):=by
 have c:(out.take k++out.drop k).Pairwise (fun x y=>bU x y<0):=by rwa [Cr]
 obtain⟨r,l,s⟩:=List.pairwise_append.1 c
 have i:∀y∈out.take k,bU y x<0:=fun y e=>by
  obtain⟨j,p,rfl⟩:=Ch e
  simp only [Ay]at p
  rw [Ci]
  exact h1 j om om
 have g:∀y∈out.drop k,bU x y<0:=fun y e=>by
  by_cases f:k<out.length
  ·obtain⟨g1,g2⟩:=o f
   have n:bU x out[k]<0:=by
    have:=cJ.oY x out[k]
    by_cases q:bU out[k] x=0
    ·exact(g2 (cmpS_zero q)).elim
    ·omega
   rw [Ca f]at e l
   rcases List.mem_cons.1 e with rfl|e
   ·exact n
   ·exact cJ.lt n (by have:=(List.pairwise_cons.1 l).1 y e;omega)
  ·rw [Cb om]at e;cases e
 refine List.pairwise_append.2 ⟨r,List.pairwise_cons.2 ⟨g,l⟩,fun a m b hb=>?_⟩
 rcases List.mem_cons.1 hb with rfl|hb
 ·exact i a m
 ·exact s a m b hb
noncomputable def stageG {β:Type} (part:List UInt8) (d:Dice) (k:List UInt8->List Int->Int->Option β):Option β:=
 (aN (6:Int) d).bind fun a=>if(a.1==(0:Int))=true then(k [42] a.2.fL a.2.fAt)else(if(a.1==(1:Int))=true then(if(decide ((part.length:Int)>(0:Int)))=true then((aN (part.length:Int) a.2).bind fun b=>(lP part 0 b.1).bind fun f=>(rY f [63]).bind fun g=>(lP part (CH .i64 (b.1+(1:Int))) (part.length:Int)).bind fun i=>(rY g i).bind fun j=>k j b.2.fL b.2.fAt)else(k part a.2.fL a.2.fAt))else(if(a.1==(2:Int))=true then(if(decide ((part.length:Int)>(0:Int)))=true then((aN (CH .i64 ((part.length:Int)+(1:Int))) a.2).bind fun c=>(lP part 0 c.1).bind fun l=>(rY l [42]).bind fun m=>k m c.2.fL c.2.fAt)else(k part a.2.fL a.2.fAt))else(if(a.1==(3:Int))=true then((aN (6:Int) a.2).bind fun e=>(jB [[42,42],[42,85,42],[97],[63,63,63],[70,85,82,70,85,82,70,85,82],[42,63]] e.1).bind fun n=>k n e.2.fL e.2.fAt)else(k part a.2.fL a.2.fAt))))
theorem stage_ok{β:Type}{part:List UInt8}(t:part.length<=5){d:Dice}(hd:aV d){k:List UInt8->List Int->Int->Option β}{Q:β->Prop}
  (hk:∀o(g:Dice),o.length<=9->aV g->∃r,k o g.fL g.fAt=some r∧Q r):∃r,stageG part d k=some r∧Q r:=by
 obtain⟨v,d1,p,v0,v6,c⟩:=aT (k:=6) om om hd
 unfold stageG
 rw [p]
 simp only [zb]
 split
 ·exact hk _ _ sm c
 split
 ·split
  ·rename_i f
   have f:0<part.length:=by simp at f;exact f
   obtain⟨w,d2,e2,w0,m,e⟩:=aT (k:=(part.length:Int)) om om c
   obtain⟨n,rfl⟩:=CU w0
   rw [e2]
   simp only [zb]
   rw [dX (a := 0) (b := (n : Int)) (i := 0) (j := n) rfl rfl (AL _) om, zb, jd so, zb, w64 om om,
    dX (i:=n+1) (j:=part.length) om rfl om (AB _),zb,jd so,zb]
   exact hk _ _ so e
  ·exact hk _ _ om c
 split
 ·split
  ·rw [w64 om om]
   obtain⟨w,d2,e2,w0,m,e⟩:=aT (k:=(part.length:Int)+1) om om c
   obtain⟨n,rfl⟩:=CU w0
   rw [e2]
   simp only [zb]
   rw [dX (a:=0) (b:=(n:Int)) (i:=0) (j:=n) rfl rfl (AL _) om,zb,jd so,zb]
   exact hk _ _ so e
  ·exact hk _ _ om c
 split
 ·obtain⟨w,d2,e2,w0,m,e⟩:=aT (k:=6) om om c
  obtain⟨x,s,q⟩:=ep (l:=([[42,42],[42,85,42],[97],[63,63,63],[70,85,82,70,85,82,70,85,82],[42,63]]:List (List UInt8))) w0 (by simpa using m)
  rw [e2]
  simp only [zb]
  rw [q,zb]
  refine hk _ _ ?_ e
  have:∀x∈([[42,42],[42,85,42],[97],[63,63,63],[70,85,82,70,85,82,70,85,82],[42,63]]:List (List UInt8)),x.length<=9:=by decide
  exact this x s
 ·exact hk _ _ om c
theorem two{α:Type}{P:α->Prop}{x y:α}(a:P x)(b:P y){i:Nat}(hi:i< [x,y].length):P [x,y][i]:=by
 match i,hi with
 |0,_=>exact a
 |1,_=>exact b
end Go.Dw.Ix.Sx
set_option maxRecDepth 100000
set_option maxHeartbeats 4000000
namespace Go.Dw.Ix
open Go.Dw
theorem loop_first{α ω:Type}{body:Int->Option (jY Int (Unit⊕ω))}(l:List α){p:α->Bool}{f:Nat->α->ω}
  (h1:∀(i:Nat)(hi:i<l.length),body i=if p l[i]=true then some (.stop (.inr (f i l[i])))else some (.next ((i+1:Nat):Int)))
  (m:body (l.length:Nat)=some (.stop (.inl ()))):
  (cI body (0:Int)=some (.inl ())∧∀x∈l,p x=false)∨
  ∃(i:Nat)(hi:i<l.length),cI body (0:Int)=some (.inr (f i l[i]))∧p l[i]=true∧∀x∈l.take i,p x=false:=by
 have:∀k i,i+k=l.length->(∀x∈l.take i,p x=false)->(cI body (i:Int)=some (.inl ())∧∀x∈l,p x=false)∨
   ∃(j:Nat)(o:j<l.length),cI body (i:Int)=some (.inr (f j l[j]))∧p l[j]=true∧∀x∈l.take j,p x=false:=by
  intro k
  induction k with
  |zero=>
   intro i hi c
   obtain rfl:i=l.length:=by omega
   exact .inl ⟨kf m,by simpa using c⟩
  |succ k n=>
   intro i hi c
   have a:i<l.length:=by omega
   cases g:p l[i]with
   |true=>exact .inr ⟨i,a,kf (by rw [h1 i a,if_pos g]),g,c⟩
   |false=>
    have e:=kI (ω:=Unit⊕ω) (body:=body) (s:=(i:Int)) (s':=((i+1:Nat):Int)) (by rw [h1 i a,if_neg (by simp [g])])
    rw [e]
    refine n (i+1) om fun x b=>?_
    rw [kK a]at b
    rcases List.mem_append.1 b with b|b
    ·exact c x b
    ·rw [Bc]at b;rw [b];exact g
 have:=this l.length 0 om sm
 simpa using this
theorem je{α ω:Type}{body:Int->Option (jY Int (Unit⊕ω))}(l:List α){p:α->Bool}{f:α->ω}
  (h1:∀(i:Nat)(hi:i<l.length),body i=if p l[i]=true then some (.stop (.inr (f l[i])))else some (.next ((i+1:Nat):Int)))
  (b:body (l.length:Nat)=some (.stop (.inl ()))):cI body (0:Int)=some (match l.find? p with|none=>.inl ()|some x=>.inr (f x)):=by
 rcases loop_first l (f:=fun _ x=>f x) h1 b with⟨e,h⟩|⟨i,hi,e,c,h⟩
 ·rw [e,List.find?_eq_none.2 fun x a=>by simp [h x a]]
 ·rw [e]
  have:l.find? p=some l[i]:=by
   refine List.find?_eq_some_iff_append.2 ⟨c,l.take i,l.drop (i+1),?_,fun x a=>by simp [h x a]⟩
   rw [<-Ca hi,Cr]
  rw [this]
def noC:Chan:=⟨⟨[],[],[],[]⟩,[]⟩
def noE:Epoch:=⟨0,0,⟨0,0⟩,⟨0,0,0⟩,⟨[]⟩⟩
def di(l:List Chan)(z:Src):Chan×Bool:=match l.find? (fun c=>decide (c.aj=z))with|none=>(noC,false)|some c=>(c,true)
theorem Find_eq{l:List Chan}(hl:IOk l)(z:Src):bW ⟨l⟩ z=some (di l z):=by
 have a:=hl.1
 unfold bW di
 rw [je l (p := fun c => decide (c.aj = z)) (f := fun c => (c, true)) (fun i hi => by
  unfold bX
  simp only
  rw [if_pos (decide_eq_true om),dR rfl hi,zb,eqs,pcopyC (hl.2 _ (Ah hi)).2,zb,w64 om om]
  rfl) (by
  unfold bX
  simp only
  rw [if_neg sm])]
 cases l.find? (fun c=>decide (c.aj=z))<;>rfl
theorem IOk.one{l:List Chan}(hl:IOk l){i:Nat}(hi:i<l.length):IOk [l[i]]:=⟨sm,fun c hc=>by rw [List.mem_singleton.1 hc];exact hl.2 _ (Ah hi)⟩
theorem i6{l:List Chan}(hl:IOk l)(z:Src):fR ⟨l⟩ z=some (di l z):=by
 have a:=hl.1
 unfold fR di
 rw [je l (p := fun c => decide (c.aj = z)) (f := fun c => (c, true)) (fun i hi => by
  unfold gR
  simp only
  rw [if_pos (decide_eq_true om),dR rfl hi,zb,eqs,w64 om om]
  have hc:lP l (i:Int) ((i:Int)+1)=some [l[i]]:=by
   rw [dX (i:=i) (j:=i+1) rfl om om om,Ca hi,show i+1-i=1 by omega];rfl
  rw [hc,zb,copyI (hl.one hi),zb]
  rfl) (by
  unfold gR
  simp only
  rw [if_neg sm])]
 cases l.find? (fun c=>decide (c.aj=z))<;>rfl
theorem findB_ok{l:List Chan}(hl:IOk l)(z:Src):EOk (di l z).1.al:=by
 unfold di
 cases h:l.find? (fun c=>decide (c.aj=z))with
 |none=>exact⟨by simp [noC],fun e he=>by simp [noC]at he⟩
 |some c=>exact(hl.2 c (Cl h)).2
def atB(l:List Epoch)(t:Int):Epoch×Bool:=match l.find? (ins t)with|none=>(noE,false)|some e=>(e,true)
theorem at_eq{c:Chan}(hl:c.al.length<=4000000000)(t:Int):db c t=some (atB c.al t):=by
 unfold db atB
 rw [je c.al (p := ins t) (f := fun e => (e, true)) (fun i hi => by
  unfold cV ins
  rw [if_pos (decide_eq_true om),dR rfl hi,w64 om om,zb]
  cases decide (c.al[i].az<=t)<;>cases decide (t<c.al[i].fTo)<;>rfl) (by
  unfold cV
  rw [if_neg sm])]
 cases c.al.find? (ins t)<;>rfl
theorem ref_at_loop{x:Chan×Bool}(hl:x.1.al.length<=4000000000)(t:Int):cI (fu x t) (0:Int)=some (match x.1.al.find? (ins t)with|none=>.inl ()|some e=>.inr (e,0)):=by
 rw [je (body := fu x t) x.1.al (p := ins t) (f := fun e => (e, (0 : Int))) (fun i hi => by
  unfold fu ins
  rw [if_pos (decide_eq_true om),dR rfl hi,w64 om om]
  simp only [zb]
  cases decide (x.1.al[i].az<=t)<;>cases decide (t<x.1.al[i].fTo)<;>rfl) (by
  unfold fu
  rw [if_neg sm])]
 cases x.1.al.find? (ins t)<;>rfl
def atI(l:List Chan)(z:Src)(t:Int):Epoch×Int:=match(di l z).1.al.find? (ins t)with|none=>(noE,6)|some e=>(e,0)
noncomputable def AtB (l:List Chan) (z:Src) (t:Int):Epoch×Int:=if vI l=true then atI l z t else(noE,1)
theorem At_eq{l:List Chan}(hl:IOk l)(z:Src)(t:Int):da ⟨l⟩ z t=some (AtB l z t):=by
 unfold da AtB atI
 rw [vI_eq hl,zb]
 cases vI l with
 |false=>rfl
 |true=>
  rw [if_neg (by decide),if_pos rfl,Find_eq hl,zb,at_eq (findB_ok hl z).1,zb]
  unfold atB
  cases(di l z).1.al.find? (ins t)<;>rfl
theorem ref_At_eq{l:List Chan}(hl:IOk l)(z:Src)(t:Int):jS ⟨l⟩ z t=some (AtB l z t):=by
 unfold jS AtB atI
 rw [ir hl,zb]
 cases vI l with
 |false=>rfl
 |true=>
  rw [if_neg (by decide),if_pos rfl,i6 hl,zb,ref_at_loop (findB_ok hl z).1,zb]
  cases(di l z).1.al.find? (ins t)<;>rfl
theorem AtB_ok{l:List Chan}(hl:IOk l)(z:Src)(t:Int):ROk (AtB l z t).1.aB:=by
 unfold AtB atI
 split
 ·cases h:(di l z).1.al.find? (ins t)with
  |none=>exact⟨by simp [noE],fun s a=>by simp [noE]at a⟩
  |some e=>exact(findB_ok hl z).2 e (Cl h)
 ·exact⟨by simp [noE],fun s a=>by simp [noE]at a⟩
theorem body_eq(m:List Span):fP m=bG m:=by
 funext ⟨s,out⟩
 unfold fP bG
 simp only
 by_cases h:s<(m.length:Int)
 ·rw [if_pos (decide_eq_true h),if_pos (decide_eq_true h)]
  cases h1:inO m s with
  |none=>simp
  |some _=>
   cases a:jB m s with
   |none=>simp
   |some x=>simp
 ·rw [if_neg (by simpa using h),if_neg (by simpa using h)]
theorem ref_sorted{l:List Span}(hl:l.length<=1000)(m:∀s∈l,s.az<s.fTo)(g:∀i j,i<j->(hi:i<l.length)->(o:j<l.length)->l[i].az<l[j].az):cI (dq l) ((0:Int),([]:List Span))=some l:=by
 have := dK (body := dq l) l.length (fun i => ((i : Int), l.take i)) (r := l) (fun i hi => by
  have b:(l.take i).length=i:=by simp;omega
  have hk:cI (fO (l.take i) l (i:Int)) (((l.take i).length:Nat):Int)=some ((i:Int),(i:Int),l.take i):=by
   refine kf ?_
   unfold fO
   rw [b]
   by_cases e:i=0
   ·subst e
    rw [if_neg sm]
   ·rw [if_pos (decide_eq_true om),w64 om om,lY om om,dR (i:=i-1) om om,dR rfl hi]
    simp only [zb,Ci]
    have:=g (i-1) i om om hi
    rw [if_neg so]
  unfold dq
  simp only
  rw [if_pos (decide_eq_true om),dR rfl hi,zb,zb,if_neg (by have:=m _ (Ah hi);simp;omega),hk]
  simp only [zb]
  rw [dR rfl hi]
  simp only [zb]
  rw [bA so]
  simp only [zb]
  have c:(l.take i++[l[i]]).length=i+1:=by simp;omega
  rw [c, w64 (n := (i : Int) + 1) om om, oL om om om, zb, oL om om om, zb, tI om om, zb,
   show 0+((i:Int)).toNat=i by omega,show 0+(((i+1:Nat):Int)).toNat=i+1 by omega,show 0+((i:Int)+1).toNat=i+1 by omega,qx om om,zb]
  have a:=shift_eq (out:=l.take i) (x:=l[i]) (z:=l[i]) (k:=i) om
  rw [b]at a
  have f:(nM (l.take i++[l[i]]) (i+1) (i+1-(i+1)) (((l.take i++[l[i]]).drop i).take (i+1-i))).length=i+1:=by
   have:=congrArg Cj a
   rw [A0]at this
   rw [this]
   simp
   omega
  rw [lY om om,zb,uW (i:=i) rfl om,zb,a]
  have hd:(l.take i).drop i=[]:=Cb om
  rw [hd,List.take_take,Nat.min_self,kK hi]
  rfl) (by
  unfold dq
  simp only
  rw [if_neg sm,Ct])
 simpa using this
theorem perm_sorted{l m:List Span}(g:m.Perm l)(hl:l.Pairwise (fun x y=>x.az<y.az))(hm:m.Pairwise (fun x y=>x.az<=y.az)):m=l:=
 g.eq_of_pairwise (le := fun x y => x.az ≤ y.az) (fun a b k hb h1 n => by
  have h:=List.pairwise_iff_getElem.1 hl
  obtain⟨i,hi,rfl⟩:=Ch (g.mem_iff.1 k)
  obtain⟨j,f,rfl⟩:=Ch hb
  by_cases c:i<j
  ·have:=h i j hi f c;omega
  ·by_cases e:j<i
   ·have:=h j i f hi e;omega
   ·have:i=j:=by omega
    subst this;rfl) hm (hl.imp fun h=>om)
theorem Normal_eq{l:List Span}(hl:l.length<=1000)(g:∀s∈l,s.az<s.fTo)(e:l.Pairwise (fun x y=>x.az<y.az)):∃r,em l=some r∧gD l=some r∧r.length<=1000∧∀y,gy r y↔gy l y:=by
 obtain⟨m,k,q,f⟩:=iK lit2_ok l om
 obtain rfl : m = l := perm_sorted q e (f.imp fun {a b} h => by
  rw [lit2_lt]at h
  simp only [decide_eq_false_iff_not]at h
  unfold cmpI at h
  by_cases n:b.az<a.az
  ·rw [if_pos n]at h;omega
  ·omega)
 obtain⟨out,e2,h1,o⟩:=merge_ok (m:=m) om g (e.imp fun h=>om)
 refine⟨out,?_,?_,om,o⟩
 ·unfold em
  rw [ij om,zb,del_ok om g,zb,k,zb,e2];rfl
 ·unfold gD
  rw [ref_sorted hl g (fun i j c hi p=>List.pairwise_iff_getElem.1 e i j hi p c),zb,body_eq,e2];rfl
end Go.Dw.Ix
set_option maxRecDepth 100000
set_option maxHeartbeats 4000000
namespace Go.Dw.Ix
open Go.Dw
theorem vEs_inv{l:List Epoch}(h:vEs l=true):l.length<=32∧(∀e∈l,vE e=true)∧∀i j,i<j->(hi:i<l.length)->(n:j<l.length)->l[i].fTo<=l[j].az:=by
 unfold vEs at h
 rw [Ac]at h
 obtain⟨h1,c⟩:=h
 have b:∀i,i<l.length->iu l i=true:=fun i hi=>List.all_eq_true.1 h1 i (List.mem_range.2 hi)
 have f:∀i(hi:i<l.length),vE l[i]=true:=fun i hi=>by
  have:=b i hi
  unfold iu at this
  rw [zc hi]at this
  simp only [Ac]at this
  exact this.1
 have a:l.length<=32:=by unfold inB at c;simp at c;omega
 refine⟨a,fun e he=>by obtain⟨i,hi,rfl⟩:=Ch he;exact f i hi,fun i j m hi n=>?_⟩
 have:∀k(hk:i+k+1<l.length),l[i].fTo<=l[i+k+1].az:=by
  intro k
  induction k with
  |zero=>
   intro hk
   have:=b (i+1) hk
   rw [jW (i:=i) hk]at this
   simp only [Ac,decide_eq_true_eq]at this
   exact this.2
  |succ k o=>
   intro hk
   have p:=o om
   have:=b (i+k+1+1) hk
   rw [jW (i:=i+k+1) hk]at this
   simp only [Ac,decide_eq_true_eq]at this
   have q:=(vE_lt (f (i+k+1) om)).1
   have r:=this.2
   show l[i].fTo<=l[i+k+1+1].az
   omega
 have g:=this (j-i-1) om
 simpa [show i+(j-i-1)+1=j by omega]using g
theorem cmpS_lt{a b c:Src}(h1:bU a b<0)(e:bU b c<0):bU a c<0:=by
 have t1:=cJ.tr a b c om om
 have t2:=cJ.oY a c
 have t3:=cJ.oY b c
 by_cases h:bU a c=0
 ·have:=cJ.tr c a b om om;omega
 ·omega
theorem vI_inv{l:List Chan}(h:vI l=true):l.length<=128∧(∀c∈l,bw c.aj=true∧vEs c.al=true)∧∀i j,i<j->(hi:i<l.length)->(n:j<l.length)->bU l[i].aj l[j].aj<0:=by
 unfold vI at h
 rw [Ac,decide_eq_true_eq]at h
 obtain⟨h1,b⟩:=h
 have a:∀i,i<l.length->ja l i=true:=fun i hi=>List.all_eq_true.1 h1 i (List.mem_range.2 hi)
 refine⟨b,fun e he=>?_,fun i j m hi n=>?_⟩
 ·obtain⟨i,hi,rfl⟩:=Ch he
  have:=a i hi
  unfold ja at this
  rw [zc hi]at this
  simp only [Ac]at this
  exact this.1
 ·have:∀k(hk:i+k+1<l.length),bU l[i].aj l[i+k+1].aj<0:=by
   intro k
   induction k with
   |zero=>
    intro hk
    have:=a (i+1) hk
    rw [jX (i:=i) hk]at this
    simp only [Ac,decide_eq_true_eq]at this
    exact this.2
   |succ k o=>
    intro hk
    have f:=o om
    have:=a (i+k+1+1) hk
    rw [jX (i:=i+k+1) hk]at this
    simp only [Ac,decide_eq_true_eq]at this
    exact cmpS_lt f this.2
  have g:=this (j-i-1) om
  simpa [show i+(j-i-1)+1=j by omega]using g
theorem spans_loop{x:Chan×Bool}(hl:x.1.al.length<=32):cI (a8 x) ((0:Int),([]:List Span))=some (x.1.al.map i7):=
 dK (body := a8 x) x.1.al.length (fun i => ((i : Int), (x.1.al.take i).map i7)) (fun i hi => by
  unfold a8
  simp only
  rw [if_pos (decide_eq_true om),dR rfl hi,zb,bA so,zb,w64 om om,kK hi,CA]
  rfl) (by
  unfold a8
  simp only
  rw [if_neg sm,Ct])
theorem ref_spans_loop{x:Chan×Bool}(hl:x.1.al.length<=32):cI (dM x) ((0:Int),([]:List Span))=some (x.1.al.map i7):=
 dK (body := dM x) x.1.al.length (fun i => ((i : Int), (x.1.al.take i).map i7)) (fun i hi => by
  unfold dM
  simp only
  rw [if_pos (decide_eq_true om),dR rfl hi,zb,zb,bA so,zb,w64 om om,kK hi,CA]
  rfl) (by
  unfold dM
  simp only
  rw [if_neg sm,Ct])
theorem findB_v{l:List Chan}(h:vI l=true)(z:Src):(di l z).1.al=[]∨vEs (di l z).1.al=true:=by
 unfold di
 cases hf:l.find? (fun c=>decide (c.aj=z))with
 |none=>exact .inl rfl
 |some c=>exact .inr ((vI_inv h).2.1 c (Cl hf)).2
theorem Times_eq{l:List Chan}(hl:IOk l)(z:Src):∃r,bO ⟨l⟩ z=some r∧gg ⟨l⟩ z=some r∧r.length<=1000∧(vI l=true->∀x,gJ r x=some ((di l z).1.al.any (ins x))):=by
 unfold bO gg
 rw [vI_eq hl,ir hl,zb,zb]
 cases u:vI l with
 |false=>exact⟨[],rfl,rfl,sm,fun h=>by cases h⟩
 |true=>
  rw [if_neg (by decide),if_neg (by decide),Find_eq hl,i6 hl,zb,zb]
  have key:(di l z).1.al.length<=32∧(∀e∈(di l z).1.al,vE e=true)∧∀i j,i<j->(hi:i<(di l z).1.al.length)->(n:j<(di l z).1.al.length)->(di l z).1.al[i].fTo<=(di l z).1.al[j].az:=by
   rcases findB_v u z with h|h
   ·rw [h];exact⟨sm,fun e he=>by simp at he,fun i j _ hi=>by simp at hi⟩
   ·exact vEs_inv h
  obtain⟨k,m,k3⟩:=key
  generalize c:(di l z).1.al=E at k m k3⊢
  rw [spans_loop (by rw [c];exact k),ref_spans_loop (by rw [c];exact k),c,zb,zb]
  obtain ⟨r, o, e2, h1, t⟩ := Normal_eq (l := E.map i7) so (fun s g => by
   obtain⟨e,he,rfl⟩:=List.mem_map.1 g
   exact(vE_lt (m e he)).1) (by
   rw [List.pairwise_map,Cm]
   intro i j hi n f
   have a:=k3 i j f hi n
   have b:=(vE_lt (m _ (Ah hi))).1
   simp only [i7]
   omega)
  rw [o,e2]
  refine⟨r,rfl,rfl,h1,fun _ x=>?_⟩
  obtain⟨b,p,hb⟩:=has_eq (l:=r) om x
  rw [p]
  refine congrArg some ?_
  rw [Cw,hb,t,C6]
  constructor
  ·rintro⟨s,g,q⟩
   obtain⟨e,he,rfl⟩:=List.mem_map.1 g
   exact⟨e,he,iy.2 q⟩
  ·rintro⟨e,he,h⟩
   exact⟨i7 e,List.mem_map.2 ⟨e,he,rfl⟩,iy.1 h⟩
theorem findB_at{l:List Chan}(h:vI l=true){i:Nat}(hi:i<l.length):di l l[i].aj=(l[i],true):=by
 have f:=(vI_inv h).2.2
 unfold di
 cases hf:l.find? (fun c=>decide (c.aj=l[i].aj))with
 |none=>have:=List.find?_eq_none.1 hf _ (Ah hi);simp at this
 |some c=>
  have h1:=Cf hf
  simp only [decide_eq_true_eq]at h1
  obtain⟨j,e,rfl⟩:=Ch (Cl hf)
  have g:=cJ.refl l[i].aj
  have:j=i:=by
   by_cases b:i<j
   ·have:=f i j b hi e;rw [h1]at this;omega
   ·by_cases a:j<i
    ·have:=f j i a e hi;rw [h1]at this;omega
    ·omega
  subst this;rfl
def g9(l:List Chan)(t:Int):List Src:=(l.filter fun c=>c.al.any (ins t)).map (·.aj)
theorem srcs_take{l:List Chan}{t:Int}{i:Nat}(hi:i<l.length):g9 (l.take (i+1)) t=g9 (l.take i) t++if l[i].al.any (ins t)=true then [l[i].aj]else []:=by
 unfold g9
 rw [kK hi,Cd,CA]
 by_cases h:l[i].al.any (ins t)=true<;>simp [Ce,h]
theorem srcs_len(l:List Chan)(t:Int):(g9 l t).length<=l.length:=by unfold g9;rw [List.length_map];exact Ck _ _
theorem atB_any(l:List Epoch)(t:Int):(atB l t).2=l.any (ins t):=by
 unfold atB
 cases h:l.find? (ins t)with
 |none=>
  simp only
  symm
  rw [C5]
  exact List.find?_eq_none.1 h
 |some e=>
  simp only
  symm
  rw [C6]
  exact⟨e,Cl h,Cf h⟩
theorem Sources_eq{l:List Chan}(hl:IOk l){p:List UInt8}(j:p.length<=4000000000)(t:Int):∃r,dY ⟨l⟩ p t=some r∧gb ⟨l⟩ p t=some r∧r.1.length<=1000:=by
 unfold dY gb
 rw [vI_eq hl,ir hl,zb,zb]
 cases f:vI l with
 |false=>exact⟨([],1),rfl,rfl,sm⟩
 |true=>
  obtain⟨v1,v2,v3⟩:=vI_inv f
  rw [if_neg (by decide),if_neg (by decide)]
  have a1:cI (ch ⟨l⟩ t) ((0:Int),([]:List Src))=some (g9 l t):=by
   have := dK (body := ch ⟨l⟩ t) l.length (fun i => ((i : Int), g9 (l.take i) t)) (r := g9 l t) (fun i hi => by
    have hlen:=srcs_len (l.take i) t
    have e:(l.take i).length=i:=by simp;omega
    unfold ch
    simp only
    rw [if_pos (decide_eq_true om),dR rfl hi,zb,at_eq (hl.2 _ (Ah hi)).2.1,zb,atB_any,w64 om om,bA so,srcs_take hi]
    by_cases h:l[i].al.any (ins t)=true<;>simp [h]) (by
    unfold ch
    simp only
    rw [if_neg sm,Ct])
   simpa [g9]using this
  have a2:cI (dc ⟨l⟩ t) ((0:Int),([]:List Src))=some (g9 l t):=by
   have := dK (body := dc ⟨l⟩ t) l.length (fun i => ((i : Int), g9 (l.take i) t)) (r := g9 l t) (fun i hi => by
    have hlen:=srcs_len (l.take i) t
    have e:(l.take i).length=i:=by simp;omega
    obtain⟨r, -,b, -,e2⟩:=Times_eq hl l[i].aj
    have a:=e2 f t
    rw [findB_at f hi]at a
    unfold dc
    simp only
    rw [if_pos (decide_eq_true om),dR rfl hi,zb,b,zb,a,zb,zb,w64 om om,bA so,srcs_take hi]
    by_cases h:l[i].al.any (ins t)=true<;>simp [h]) (by
    unfold dc
    simp only
    rw [if_neg sm,Ct])
   simpa [g9]using this
  rw [a1,a2,zb,zb]
  obtain ⟨r, b, e2, a⟩ := Sx.Select_eq j (l := g9 l t) (by have := srcs_len l t; omega) (fun x g => by
   unfold g9 at g
   obtain⟨c,hc,rfl⟩:=List.mem_map.1 g
   exact(hl.2 c (List.mem_filter.1 hc).1).1)
  rw [b,e2]
  exact⟨r,rfl,rfl,a⟩
end Go.Dw.Ix
set_option maxRecDepth 100000
set_option maxHeartbeats 4000000
namespace Go.Dw.Ix
open Go.Dw
def oneS:Src:=⟨[65],[66],[],[72,72,90]⟩
def jM:List Chan:=[⟨oneS,[⟨10,20,⟨100,1⟩,⟨0,0,0⟩,⟨[]⟩⟩,⟨20,30,⟨100,1⟩,⟨5,0,0⟩,⟨[]⟩⟩]⟩]
theorem one_ok:IOk jM:=by
 refine⟨by decide,fun c hc=>?_⟩
 rw [jM,Bc]at hc
 subst hc
 refine⟨⟨by decide,by decide,by decide,by decide⟩,by decide,fun e he=>?_⟩
 simp only [List.mem_cons,List.not_mem_nil,or_false]at he
 rcases he with rfl|rfl<;>exact⟨by decide,fun s a=>by simp at a⟩
theorem one_v:vI jM=true:=by
 have h:bg ⟨jM⟩=some true:=jw _ _ (by kernel_rfl)
 rw [vI_eq one_ok]at h
 exact Option.some.inj h
theorem sane_at:dA=some true:=by
 have j:fK=some ⟨jM⟩:=rfl
 have h1:da ⟨jM⟩ oneS 20=some (⟨20,30,⟨100,1⟩,⟨5,0,0⟩,⟨[]⟩⟩,0):=by
  rw [At_eq one_ok];unfold AtB;rw [if_pos one_v];kernel_rfl
 have k:da ⟨jM⟩ oneS 30=some (noE,6):=by
  rw [At_eq one_ok];unfold AtB;rw [if_pos one_v];kernel_rfl
 have f:bg ⟨jM⟩=some true:=by rw [vI_eq one_ok,one_v]
 have l:bW ⟨jM⟩ oneS=some (di jM oneS):=Find_eq one_ok _
 have c:(di jM oneS).1.al=[⟨10,20,⟨100,1⟩,⟨0,0,0⟩,⟨[]⟩⟩,⟨20,30,⟨100,1⟩,⟨5,0,0⟩,⟨[]⟩⟩]:=by kernel_rfl
 have n:cI (a8 (di jM oneS)) ((0:Int),([]:List Span))=some [⟨10,20⟩,⟨20,30⟩]:=by
  rw [spans_loop (by rw [c];decide),c];rfl
 have s1:bG [⟨10,20⟩,⟨20,30⟩] (0,[])=some (.next (1,[⟨10,20⟩])):=by kernel_rfl
 have s2:bG [⟨10,20⟩,⟨20,30⟩] (1,[⟨10,20⟩])=some (.next (2,[⟨10,30⟩])):=by kernel_rfl
 have u:bG [⟨10,20⟩,⟨20,30⟩] (2,[⟨10,30⟩])=some (.stop [⟨10,30⟩]):=by kernel_rfl
 have o:cI (bG [⟨10,20⟩,⟨20,30⟩]) ((0:Int),([]:List Span))=some [⟨10,30⟩]:=by
  rw [kI s1,kI s2,kf u]
 have t:pK bj [⟨10,20⟩,⟨20,30⟩]=some [⟨10,20⟩,⟨20,30⟩]:=by
  obtain⟨m,g,s,e⟩:=iK lit2_ok [⟨10,20⟩,⟨20,30⟩] sm
  obtain rfl := perm_sorted s sm (e.imp fun {a b} h => by
   rw [lit2_lt]at h
   simp only [decide_eq_false_iff_not]at h
   unfold cmpI at h
   by_cases i:b.az<a.az
   ·rw [if_pos i]at h;omega
   ·omega)
  exact g
 have p:bO ⟨jM⟩ oneS=some [⟨10,30⟩]:=by
  unfold bO em
  rw [f,zb,if_neg (by decide),l,zb,n,zb,ij sm,zb,del_ok sm sm,zb,t,zb,o];rfl
 have q:eY [⟨10,30⟩] [⟨10,30⟩]=some true:=by
  have t1:dS [⟨10,30⟩] [⟨10,30⟩] 0=some (.next 1):=by kernel_rfl
  have t2:dS [⟨10,30⟩] [⟨10,30⟩] 1=some (.stop (.inl ())):=by kernel_rfl
  unfold eY
  rw [if_neg (by decide),kI t1,kf t2];rfl
 have r:jB jM 0=some ⟨oneS,[⟨10,20,⟨100,1⟩,⟨0,0,0⟩,⟨[]⟩⟩,⟨20,30,⟨100,1⟩,⟨5,0,0⟩,⟨[]⟩⟩]⟩:=rfl
 unfold dA
 simp only [j,r,h1,k,f,p,q,zb]
 rfl
theorem jf{ω:Type}{body:Int->Option (jY Int ω)}(n:Nat){u:ω}(h1:∀i,i<n->body i=some (.next ((i+1:Nat):Int)))(a:body (n:Nat)=some (.stop u)):cI body (0:Int)=some u:=by
 have:=io (body:=body) n (q:=fun _=>true) (u:=u) (r:=u) (fun i hi=>by rw [h1 i hi];rfl) a
 simpa using this
theorem sameS{l:List Span}(hl:l.length<=1000):eY l l=some true:=by
 unfold eY
 rw [if_neg sm, jf (body := dS l l) l.length (u := .inl ()) (fun i hi => by
  unfold dS
  rw [if_pos (decide_eq_true om),dR rfl hi,w64 om om]
  simp) (by
  unfold dS
  rw [if_neg sm])]
 rfl
theorem l102_ok{l:List Chan}(hl:IOk l){a4:List UInt8}(f:a4.length<=4000000000)(x s1 s2 b:Int):cI (cb a4 ⟨l⟩ x s1 s2 b) (0:Int)=some (.inl (s1,s2,b)):=by
 refine jf 3 (fun i hi=>?_) (by unfold cb;rw [if_neg (by decide)])
 unfold cb
 rw [if_pos (decide_eq_true om)]
 obtain⟨q,g,a⟩:∃q,jB [a4,[42,46,42,46,42,46,72,72,63],[71,82,46,42,46,42,46,42]] (i:Int)=some q∧q.length<=4000000000:=by
  match i,hi with
  |0,_=>exact⟨_,rfl,f⟩
  |1,_=>exact⟨_,rfl,by decide⟩
  |2,_=>exact⟨_,rfl,by decide⟩
 obtain⟨r,c,e2,e⟩:=Sources_eq hl a x
 rw [g,zb,c,zb,e2,zb,if_neg sm,Sx.Same_refl e,zb,if_neg (by decide),w64 om om]
 rfl
theorem a0_ok(c:Chan):∃e,iV c=some e:=by
 unfold iV
 by_cases h:c.al.length=0
 ·rw [if_pos (by simp;exact List.eq_nil_of_length_eq_zero h)];exact⟨_,rfl⟩
 ·rw [if_neg (by simp;exact fun e=>h (by rw [e];rfl)),dR (n:=(0:Int)) (i:=0) rfl om];exact⟨_,rfl⟩
theorem l106_ok{l:List Chan}(hl:IOk l){a4:List UInt8}(g:a4.length<=4000000000)(a3:Int)(a b:Int×Dice)(z:Src)(f:Chan×Bool)(s1 s2:Int):
  cI (bH a3 a b ⟨l⟩ z f f a4) (s1,s2,(0:Int))=some (.inl (s1,s2)):=by
 refine dK (body:=bH a3 a b ⟨l⟩ z f f a4) 3 (fun i=>(s1,s2,(i:Int))) (fun i hi=>?_) (by unfold bH;simp only;rw [if_neg (by decide)])
 unfold bH
 simp only
 rw [if_pos (decide_eq_true om)]
 obtain⟨q,j⟩:∃q,jB [a3,(CH .i64 ((1000000000000:Int)+(CH .i64 ((1000:Int)*a.1)))),(CH .i64 ((CH .i64 ((1000000000000:Int)+(CH .i64 ((500:Int)*b.1))))-(1:Int)))] (i:Int)=some q:=by
  match i,hi with
  |0,_=>exact⟨_,rfl⟩
  |1,_=>exact⟨_,rfl⟩
  |2,_=>exact⟨_,rfl⟩
 obtain⟨e,he⟩:=a0_ok f.1
 have c:=AtB_ok hl z q
 rw [j, zb, At_eq hl, zb, ref_At_eq hl, zb, if_neg sm, iH c, zb, if_neg sm, he, zb, epoch_eq c, zb, zb, iH c, zb,
  if_neg sm,l102_ok hl g,zb]
 simp only
 rw [w64 om om]
 rfl
theorem IOk.cons1{c:Chan}(h:COk c):IOk [c]:=⟨sm,fun x a=>by rw [List.mem_singleton.1 a];exact h⟩
theorem findB_c{l:List Chan}(hl:IOk l)(z:Src):COk (di l z).1:=by
 unfold di
 cases h:l.find? (fun c=>decide (c.aj=z))with
 |none=>exact⟨⟨by simp [noC],by simp [noC],by simp [noC],by simp [noC]⟩,by simp [noC],fun e he=>by simp [noC]at he⟩
 |some c=>exact hl.2 c (Cl h)
theorem l110_ok{l:List Chan}(hl:IOk l){a4:List UInt8}(y:a4.length<=4000000000)(a2:Src)(a3:Int)(b c e f:List UInt8)(s1:Int){d:Dice}(hd:aV d):
  ∃a,cI (cd a2 b c e f ⟨l⟩ a3 a4) (s1,(0:Int),d.fL,d.fAt)=some (.inl (s1,a.fL,a.fAt))∧aV a:=by
 obtain⟨o,h,a,rfl,g⟩:=kY (body:=cd a2 b c e f ⟨l⟩ a3 a4) (fun s=>∃(i:Nat)(d:Dice),s=(s1,(i:Int),d.fL,d.fAt)∧i<=2∧aV d) (fun s=>(2-s.2.1).toNat)
  (fun o => ∃ a : Dice, o = .inl (s1, a.fL, a.fAt) ∧ aV a) (by
  rintro s ⟨i,d,rfl,hi,hd⟩
  unfold cd
  simp only
  by_cases n:i<2
  ·left
   rw [if_pos (decide_eq_true om)]
   obtain⟨q,z⟩:∃q,jB [a2,(ac.mk b c e f)] (i:Int)=some q:=by
    match i,n with
    |0,_=>exact⟨_,rfl⟩
    |1,_=>exact⟨_,rfl⟩
   obtain⟨r,p,e2,t, -⟩:=Times_eq hl q
   obtain⟨v,d1,u, -, -,j⟩:=aT (k:=30) om om hd
   obtain⟨v',d2,x, -, -,m⟩:=aT (k:=60) om om j
   rw [z, zb, Find_eq hl, zb, i6 hl, zb, if_neg sm, ref_inv_eq (IOk.cons1 (findB_c hl q)), zb, if_neg sm, p, zb, e2, zb, sameS t, zb,
    if_neg (by decide),eta_d,u,zb,x,zb,l106_ok hl y,zb]
   simp only
   rw [w64 om om]
   exact⟨_,rfl,⟨i+1,d2,rfl,om,m⟩,za⟩
  ·right
   rw [if_neg so]
   exact⟨_,rfl,d,rfl,hd⟩) (s1,0,d.fL,d.fAt) ⟨0,d,rfl,om,hd⟩
 exact⟨a,h,g⟩
theorem l126_ok{c:Chan}(hc:COk c)(s:Int):cI (ce c s) (0:Int)=some (.inl s):=by
 have a:=hc.2.1
 refine jf c.al.length (fun i hi=>?_) (by unfold ce;rw [if_neg sm])
 unfold ce
 rw [if_pos (decide_eq_true om),dR rfl hi,zb,vE_eq (hc.2.2 _ (Ah hi)),ref_vE_eq (hc.2.2 _ (Ah hi)),zb,zb,if_neg sm,w64 om om]
 rfl
theorem l130_ok{l:List Chan}(hl:IOk l):cI (cf ⟨l⟩) (0:Int)=some (.inl ()):=by
 have a:=hl.1
 refine jf l.length (fun i hi=>?_) (by unfold cf;rw [if_neg sm])
 unfold cf
 simp only
 rw [if_pos (decide_eq_true om),dR rfl hi,zb,l126_ok (hl.2 _ (Ah hi)),zb]
 simp only
 rw [w64 om om]
 rfl
theorem k134_ok{l:List Chan}(hl:IOk l){a4:List UInt8}(j:a4.length<=4000000000)(a2:Src)(a3:Int)(b c e f:List UInt8){i:Nat}(hi:i<3){d:Dice}(hd:aV d):
  ∃a:Dice,ba a2 ⟨l⟩ a3 a4 (i:Int) d.fL d.fAt b c e f=some (.next (((i+1:Nat):Int),a.fL,a.fAt))∧aV a:=by
 obtain⟨a,h,g⟩:=l110_ok hl j a2 a3 b c e f (i:Int) hd
 unfold ba
 rw [h,zb]
 simp only
 rw [l130_ok hl,zb]
 simp only
 rw [w64 om om]
 exact⟨a,rfl,g⟩
theorem l140_ok{l m w:List Chan}(hl:IOk l)(hm:IOk m)(hw:IOk w)(z:l.length<=1000000)(B:m.length<=1000000)(C:w.length<=1000000){a4:List UInt8}(I:a4.length<=4000000000)(j n:Dice)(a2:Src)(a3:Int){d:Dice}(hd:aV d):
  cI (cg (⟨l⟩,j) (⟨m⟩,n) ⟨w⟩ a2 a3 a4) ((0:Int),d.fL,d.fAt)=some (.inl ()):=by
 obtain ⟨o, h, rfl⟩ := kY (body := cg (⟨l⟩, j) (⟨m⟩, n) ⟨w⟩ a2 a3 a4) (fun s => ∃ (i : Nat) (d : Dice), s = ((i : Int), d.fL, d.fAt) ∧ i ≤ 3 ∧ aV d) (fun s => (3 - s.1).toNat) (fun o => o = .inl ()) (by
  rintro s ⟨i,d,rfl,hi,hd⟩
  unfold cg
  simp only
  by_cases g:i<3
  ·left
   rw [if_pos (decide_eq_true om)]
   obtain⟨q,J,b,K⟩:∃q:List Chan,jB [(⟨l⟩:ai),⟨m⟩,⟨w⟩] (i:Int)=some ⟨q⟩∧IOk q∧q.length<=1000000:=by
    match i,g with
    |0,_=>exact⟨_,rfl,hl,z⟩
    |1,_=>exact⟨_,rfl,hm,B⟩
    |2,_=>exact⟨_,rfl,hw,C⟩
   obtain⟨a,d1,G, -,f⟩:=ji hd
   have fin:∀(d2:Dice),aV d2->∀p r t u:List UInt8,∃s',ba a2 ⟨q⟩ a3 a4 (i:Int) d2.fL d2.fAt p r t u=some (.next s')∧(∃(E:Nat)(d:Dice),s'=((E:Int),d.fL,d.fAt)∧E<=3∧aV d)∧(3-s'.1).toNat<(3-(i:Int)).toNat:=fun d2 c p r t u=>by
    obtain⟨F,e,x⟩:=k134_ok b I a2 a3 p r t u g c
    exact⟨_,e,⟨i+1,F,rfl,om,x⟩,za⟩
   rw [J,zb,vI_eq b,ir b,zb,zb,if_neg sm,inv_eq b,ref_inv_eq b,zb,zb,if_neg sm,eta_d,G,zb]
   simp only
   by_cases L:0<q.length
   ·rw [if_pos (decide_eq_true om)]
    obtain⟨v,d2,e2, -, -,c⟩:=aT (k:=3) om om f
    rw [e2,zb]
    simp only
    by_cases D:v>0
    ·rw [if_pos (decide_eq_true D)]
     obtain⟨v2,d3,H,g1,g2,y⟩:=aT (k:=(q.length:Int)) om om c
     rw [H,zb]
     simp only
     rw [dR (i:=v2.toNat) om om,zb]
     exact fin d3 y _ _ _ _
    ·rw [if_neg (by simpa using D)]
     exact fin d2 c _ _ _ _
   ·rw [if_neg (by rw [decide_eq_true_eq];omega)]
    exact fin d1 f _ _ _ _
  ·right
   rw [if_neg so]
   exact⟨_,rfl,rfl⟩) (0,d.fL,d.fAt) ⟨0,d,rfl,om,hd⟩
 exact h
def smallC(c:Chan):Prop:=c.al.length<=8∧∀e∈c.al,e.aB.aA.length<=12
theorem l21_ok(c:Chan)(hc:c.al.length<=8)(s:Int):(cI (bz c s) (0:Int)=some (.inl s)∧smallC c)∨cI (bz c s) (0:Int)=some (.inr true):=by
 rcases ev (body := bz c s) c.al.length (q := fun i => match c.al[i]? with | some e => decide (e.aB.aA.length ≤ 12) | none => true) (u := .inl s) (r := fun _ => .inr true) (fun i hi => by
  unfold bz
  rw [if_pos (decide_eq_true om),dR rfl hi,zb,sane_at,w64 om om]
  simp only [zb,zc hi]
  by_cases h:c.al[i].aB.aA.length<=12
  ·rw [if_neg so,if_pos (by simpa using h)];rfl
  ·rw [if_pos so,if_neg (by simpa using h)]) (by
  unfold bz
  rw [if_neg sm])with⟨h,a⟩|⟨i,hi,h, -⟩
 ·refine .inl ⟨h,hc,fun e he=>?_⟩
  obtain⟨i,hi,rfl⟩:=Ch he
  have:=a i hi
  rw [zc hi]at this
  simpa using this
 ·exact .inr h
theorem l25_ok(l:List Chan)(hl:l.length<=8):(cI (bL ⟨l⟩) (0:Int)=some (.inl ())∧∀c∈l,smallC c)∨cI (bL ⟨l⟩) (0:Int)=some (.inr true):=by
 obtain ⟨o, h, k⟩ := kY (body := bL ⟨l⟩) (fun s => ∃ i : Nat, s = (i : Int) ∧ i ≤ l.length ∧ ∀ j, j < i → (b : j < l.length) → smallC l[j]) (fun s => ((l.length : Int) - s).toNat) (fun o => (o = .inl () ∧ ∀ c ∈ l, smallC c) ∨ o = .inr true) (by
  rintro s ⟨i,rfl,hi,a⟩
  unfold bL
  simp only
  by_cases g:i<l.length
  ·rw [if_pos (decide_eq_true om),dR rfl g,zb,sane_at]
   by_cases m:l[i].al.length<=8
   ·rw [if_neg so]
    rcases l21_ok l[i] m (i:Int)with⟨h,n⟩|h
    ·rw [h,zb]
     simp only
     rw [w64 om om]
     refine .inl ⟨_,rfl,⟨i+1,rfl,om,fun j b f=>?_⟩,om⟩
     by_cases e:j=i
     ·subst e;exact n
     ·exact a j om f
    ·rw [h,zb]
     exact .inr ⟨_,rfl,.inr rfl⟩
   ·rw [if_pos so,zb]
    exact .inr ⟨_,rfl,.inr rfl⟩
  ·rw [if_neg so]
   refine .inr ⟨_,rfl,.inl ⟨rfl,fun c hc=>?_⟩⟩
   obtain⟨j,b,rfl⟩:=Ch hc
   exact a j om b) 0 ⟨0,rfl,AL _,fun j b=>om⟩
 rcases k with⟨rfl,k⟩|rfl
 ·exact .inl ⟨h,k⟩
 ·exact .inr h
def WOk(l:List Chan):Prop:=∀c∈l,iM c.aj∧∀e∈c.al,∀s∈e.aB.aA,s.aO.length<=17592186044416
def OddOk:Prop:=∀(l:List Chan)(d:Dice),IV l->aV d->∃m a,fc ⟨l⟩ d=some (⟨m⟩,a)∧aV a∧IOk m∧m.length<=1000000
theorem law_of(ho:OddOk)(t:List Int){w:List Chan}(b:WOk w)(a2:Src)(a3:Int)(a4:List UInt8):cr t ⟨w⟩ a2 a3 a4=some true:=by
 unfold cr jy
 rw [zb,sane_at]
 by_cases i:t.length<=500
 ·rw [if_neg so]
  by_cases p:w.length<=8
  ·rw [if_neg so]
   by_cases q:a4.length<=40
   ·rw [if_neg so]
    rcases l25_ok w p with⟨h,a⟩|h
    ·rw [h,zb]
     simp only
     have hw:IOk w:=⟨om,fun c hc=>⟨(b c hc).1,by have:=(a c hc).1;omega,fun e he=>⟨by have:=(a c hc).2 e he;omega,(b c hc).2 e he⟩⟩⟩
     obtain⟨d,k,hd⟩:=roll_ok i
     obtain⟨l,d2,e2,f,hl⟩:=inventory_ok (n:=7) om om hd
     obtain⟨m,d3,o,g,hm,j⟩:=ho l d2 hl f
     rw [k,zb,e2,zb]
     simp only
     rw [o,zb,l140_ok (IV_I hl) hm hw (by have:=hl.2.2;omega) j om om _ _ a2 a3 g,zb]
     rfl
    ·rw [h];rfl
   ·rw [if_pos so];rfl
  ·rw [if_pos so];rfl
 ·rw [if_pos so];rfl
end Go.Dw.Ix
