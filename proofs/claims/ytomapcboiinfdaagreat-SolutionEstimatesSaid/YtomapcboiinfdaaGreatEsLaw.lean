
import Derived.Test.YtomapcboiinfdaaGreatEsLawRA
set_option linter.unusedVariables false
set_option linter.unusedSimpArgs false
open Classical renaming byContradiction->DO
open Nat renaming le_refl->AB, le_trans->AO, mod_eq_of_lt->Cm, mul_le_mul->DP, pow_le_pow_right->Cn, zero_le->AL
open Go.Dw.Ok renaming bind->Cs, cut->DQ, eq->Ct, get->Cu, loop->Cx, mN->Cy, nx->DA, oD->DB, quo->DC, ret->DD, st->DF, uR->DR
open Int renaming le_ediv_iff_mul_le->CR, le_of_lt->CS, le_total->CU, neg_tdiv->DS, tdiv_eq_ediv_of_nonneg->C6, tmod_eq_emod_of_nonneg->DT
open Bool renaming and_eq_true->A5, false_eq_true->Ac, not_true->DL
open Go.IntKind renaming wrap->Bw
open List renaming filter_append->DU, getElem_map->DV, getElem_mem->Aa, getElem_of_mem->Cg, length_cons->AW, length_filter_le->DW, length_map->BY, length_nil->AX, mem_append->Bj, mem_singleton->Bk, take_append_drop->DX, take_append_of_le_length->DY, take_of_length_le->DZ

set_option maxRecDepth 100000
set_option maxHeartbeats 4000000
namespace Go.Dw.Es
open Go.Dw Go.Proofs
theorem len_uniq{n a b:Int}(g:Len n a)(i:Len n b):a=b:=by
 obtain⟨a,rfl,a1, -,a2,a3⟩:=g
 obtain⟨b,rfl,c, -,e,f⟩:=i
 have k:∀x y:Nat,1<=x->(2:Int) ^ (x-1)<=n->n<2 ^ y->x<=y:=fun x y l h1 j=>by
  apply DO
  intro h
  have:(2:Int) ^ y<=2 ^ (x-1):=by
   have:=Cn (show 0<2 by decide) (show y<=x-1 by omega)
   exact_mod_cast this
  omega
 have:=k a b a1 a2 f
 have:=k b a c e a3
 omega
theorem rdigits_ok{n:Int}(h1:1<=n)(h:n<=9223372036854775807):Ok (fj n) (Len n):=by
 unfold fj
 rw [Option.bind_fun_some]
 refine Cx (fun s:Int×Int=>∃k:Nat,s=(n / 2 ^ k,(k:Int))∧k<=63∧(1<=k->(2:Int) ^ (k-1)<=n)) (fun s=>s.1.toNat) ?_ ⟨0,sm,om,om⟩
 rintro s ⟨k,rfl,m,j⟩
 have b:(0:Int)<2 ^ k:=Int.pow_pos (by decide)
 unfold kA
 dsimp only
 have c:0<=n / 2 ^ k:=Int.ediv_nonneg om (CS b)
 refine Cy (fun i=>?_) (fun hle=>DF ?_)
 ·have hk:k<=62:=by
   apply DO
   intro g
   obtain rfl:k=63:=by omega
   have f:(2:Int) ^ 63=9223372036854775808:=by decide
   have:n / 2 ^ 63=0:=Int.ediv_eq_zero_of_lt om om
   omega
  rw [shr1 c,w64 (n:=(k:Int)+1) om om]
  have e:n / 2 ^ k / 2=n / 2 ^ (k+1):=by rw [Int.pow_succ,Int.ediv_ediv_of_nonneg (CS b)]
  refine DA ⟨k+1,by rw [e];rfl,om,fun _=>?_⟩ za
  have:1*2 ^ k<=n:=(CR b).1 om
  simp only [Nat.add_sub_cancel];omega
 ·have l:n / 2 ^ k=0:=by omega
  have a:n<2 ^ k:=by
   apply DO
   intro g
   have:1<=n / 2 ^ k:=(CR b).2 om
   omega
  have hk:1<=k:=by
   rcases Nat.eq_zero_or_pos k with rfl|h
   ·simp at a;omega
   ·exact h
  exact⟨k,rfl,hk,om,j hk,a⟩
theorem digits_eq{n:Int}(h1:1<=n)(h:n<=9223372036854775807):∃l:Nat,jE n=some (l:Int)∧fj n=some (l:Int)∧1<=l∧l<=63∧(2:Int) ^ (l-1)<=n∧n<2 ^ l:=by
 obtain⟨a,a1,a2⟩:=bits_at h1 om
 obtain⟨b,c,e⟩:=rdigits_ok h1 h
 rw [len_uniq e a2]at c
 obtain⟨l,rfl,f,k,g,i⟩:=a2
 refine⟨l,a1,c,f,?_,g,i⟩
 apply DO
 intro j
 obtain rfl:l=64:=by omega
 have:(2:Int) ^ (64-1)=9223372036854775808:=by decide
 omega
theorem dig17{c m d:Int}(a: -1<=c∧c<=63)(b:0<=d∧d<=255):Ok (bX c m d) (fun r=> -256<=r∧r<=16400):=by
 unfold bX
 rw [w64 (n:=256*c) om om,w64 om om]
 exact DD ⟨om,om⟩
theorem dig20{c m d:Int}(a: -1<=c∧c<=63)(b:0<=d∧d<=127):Ok (bJ c m d) (fun r=> -256<=r∧r<=16400):=by
 unfold bJ
 rw [w64 (n:=d*2) om om,w64 (n:=d*2+1) om om]
 exact Cy (fun _=>Cs (DC om) (fun _ _=>dig17 a om)) (fun _=>dig17 a om)
theorem dig23{c m d:Int}(a: -1<=c∧c<=63)(b:0<=d∧d<=63):Ok (bK c m d) (fun r=> -256<=r∧r<=16400):=by
 unfold bK
 rw [w64 (n:=d*2) om om,w64 (n:=d*2+1) om om]
 exact Cy (fun _=>Cs (DC om) (fun _ _=>dig20 a om)) (fun _=>dig20 a om)
theorem dig26{c m d:Int}(a: -1<=c∧c<=63)(b:0<=d∧d<=31):Ok (bL c m d) (fun r=> -256<=r∧r<=16400):=by
 unfold bL
 rw [w64 (n:=d*2) om om,w64 (n:=d*2+1) om om]
 exact Cy (fun _=>Cs (DC om) (fun _ _=>dig23 a om)) (fun _=>dig23 a om)
theorem dig29{c m d:Int}(a: -1<=c∧c<=63)(b:0<=d∧d<=15):Ok (bM c m d) (fun r=> -256<=r∧r<=16400):=by
 unfold bM
 rw [w64 (n:=d*2) om om,w64 (n:=d*2+1) om om]
 exact Cy (fun _=>Cs (DC om) (fun _ _=>dig26 a om)) (fun _=>dig26 a om)
theorem dig32{c m d:Int}(a: -1<=c∧c<=63)(b:0<=d∧d<=7):Ok (bN c m d) (fun r=> -256<=r∧r<=16400):=by
 unfold bN
 rw [w64 (n:=d*2) om om,w64 (n:=d*2+1) om om]
 exact Cy (fun _=>Cs (DC om) (fun _ _=>dig29 a om)) (fun _=>dig29 a om)
theorem dig35{c m d:Int}(a: -1<=c∧c<=63)(b:0<=d∧d<=3):Ok (bO c m d) (fun r=> -256<=r∧r<=16400):=by
 unfold bO
 rw [w64 (n:=d*2) om om,w64 (n:=d*2+1) om om]
 exact Cy (fun _=>Cs (DC om) (fun _ _=>dig32 a om)) (fun _=>dig32 a om)
theorem dig38{c m d:Int}(a: -1<=c∧c<=63)(b:0<=d∧d<=1):Ok (bP c m d) (fun r=> -256<=r∧r<=16400):=by
 unfold bP
 rw [w64 (n:=d*2) om om,w64 (n:=d*2+1) om om]
 exact Cy (fun _=>Cs (DC om) (fun _ _=>dig35 a om)) (fun _=>dig35 a om)
theorem digits_ok{c m:Int}(a: -1<=c∧c<=63):Ok (cq c m) (fun r=> -256<=r∧r<=16400):=by
 unfold cq
 exact Cy (fun _=>Cs (DC om) (fun _ _=>dig38 a om)) (fun _=>dig38 a om)
theorem nD_in{m d:Int}{k:Int}(hk:0<=k∧k<=1000)(a:0<=d∧d<=k):0<=nD m d∧nD m d<=2*k+1:=by
 unfold nD
 rw [w64 (n:=d*2) om om,w64 (n:=d*2+1) om om]
 split<;>omega
theorem digD(m:Int):Ok (mF bY (m,(0:Int),(0:Int))) (fun d=>0<=d∧d<=255):=by
 have h:∀(i:Nat),i<8->∀m d:Int,mF bY (m,d,(i:Int))=mF bY (nM m,nD m d,((i+1:Nat):Int)):=fun i hi m d=>mK (lstep hi)
 have f:((0:Nat):Int)=0:=rfl
 have a:=h 0 (by decide) m 0
 rw [f]at a
 rw [a,h 1 (by decide),h 2 (by decide),h 3 (by decide),h 4 (by decide),h 5 (by decide),h 6 (by decide),h 7 (by decide),mG (o:=nD _ _) (by unfold bY;rfl)]
 have a1:=nD_in (m:=m) (d:=0) (k:=0) om om
 have a2:=nD_in (m:=nM m) (k:=1) om a1
 have a3:=nD_in (m:=nM (nM m)) (k:=3) om a2
 have a4:=nD_in (m:=nM (nM (nM m))) (k:=7) om a3
 have a5:=nD_in (m:=nM (nM (nM (nM m)))) (k:=15) om a4
 have b:=nD_in (m:=nM (nM (nM (nM (nM m))))) (k:=31) om a5
 have c:=nD_in (m:=nM (nM (nM (nM (nM (nM m)))))) (k:=63) om b
 have e:=nD_in (m:=nM (nM (nM (nM (nM (nM (nM m))))))) (k:=127) om c
 exact⟨_,rfl,e⟩
theorem digits_D(m:Int):∃d:Int,(0<=d∧d<=255)∧∀c:Int, -1<=c∧c<=2000->cq c m=some (256*c+d):=by
 obtain⟨r,a, -⟩:=digits_ok (c:=0) (m:=m) om
 rw [<-lj]at a
 unfold ek at a
 cases e:mF bY (m,(0:Int),(0:Int))with
 |none=>rw [e]at a;cases a
 |some d=>
  have b:0<=d∧d<=255:=by
   have:=digD m
   rw [e]at this
   obtain⟨x,f,h⟩:=this
   rw [Option.some.inj f];exact h
  refine⟨d,b,fun c g=>?_⟩
  rw [<-lj]
  unfold ek
  rw [e,zb,w64 (n:=256*c) om om,w64 om om]
theorem log_eq(n:Int)(h:n<=9223372036854775807):∃r,dp n=some r∧iO n=some r∧ -256<=r.1∧r.1<=16400∧(1<=n->r.2=0):=by
 unfold dp iO
 by_cases h1:n<1
 ·simp only [h1,decide_true,if_true];exact⟨_,rfl,rfl,sm,sm,fun h=>om⟩
 simp only [h1,decide_false,Ac,if_false]
 obtain⟨l,c,e2,f,g,i,j⟩:=digits_eq (n:=n) om h
 have hw:Bw .u64 n=n:=IntWalk.u64_in _ om
 rw [hw,c,e2,zb,zb,w64 (n:=(l:Int)-1) om om]
 by_cases b:(l:Int)-1<=30
 ·simp only [b,decide_true,if_true]
  rw [w64 (n:=30-((l:Int)-1)) om om,IntWalk.u64_in (30-((l:Int)-1)) om]
  have e:sI .i64 n (30-((l:Int)-1))=some (pI .i64 n (30-((l:Int)-1))):=by unfold sI;rw [if_neg om]
  obtain⟨d,⟨d0,d1⟩,a⟩:=digits_D (pI .i64 n (30-((l:Int)-1)))
  rw [e,zb,zb,lj,a _ om,zb]
  exact⟨_,rfl,rfl,za,za,fun _=>rfl⟩
 ·simp only [b,decide_false,Ac,if_false]
  rw [w64 (n:=(l:Int)-1-30) om om,IntWalk.u64_in ((l:Int)-1-30) om]
  have e:shrO .i64 n ((l:Int)-1-30)=some (mT .i64 n ((l:Int)-1-30)):=by unfold shrO;rw [if_neg om]
  obtain⟨d,⟨d0,d1⟩,a⟩:=digits_D (mT .i64 n ((l:Int)-1-30))
  rw [e,zb,zb,lj,a _ om,zb]
  exact⟨_,rfl,rfl,za,za,fun _=>rfl⟩
theorem or_gen(m b:Nat)(c:b<2 ^ 30)(h:2 ^ 30*m+b<4611686018427387904):orI .i64 (pI .i64 (m:Int) 30) (b:Int)=1073741824*m+b:=by
 have e:=Nat.two_pow_add_eq_or_of_lt (i:=30) (b:=b) c m
 have f:pI .i64 (m:Int) 30=((2 ^ 30*m:Nat):Int):=by
  unfold pI
  show Bw .i64 ((m:Int)*1073741824)=_
  rw [w64 om om];omega
 rw [f]
 generalize g:2 ^ 30*m=A at*
 unfold orI
 show Bw .i64 (((BitVec.ofInt 64 _ ||| BitVec.ofInt 64 _).toNat:Nat):Int)=_
 rw [BitVec.ofInt_natCast,BitVec.ofInt_natCast,BitVec.toNat_or,BitVec.toNat_ofNat,BitVec.toNat_ofNat,Cm (a:=A) om,Cm (a:=b) om,show(A ||| b)=A+b by omega]
 rw [w64 om om];omega
theorem logNat_eq{l:List Int}(y:vN l=true)(C:l≠ []):∃r,cC l=some r∧gC l=some r∧ -1000<=r.1∧r.1<=600000∧r.2=0:=by
 obtain⟨v1,v2,v3⟩:=je.1 y
 have D:0<l.length:=List.length_pos_iff.2 C
 have g:=v3.get v2 D
 unfold cC gC
 rw [nv_eq om,lf om,y]
 simp only [zb,DL,Ac,if_false]
 rw [w64 (n:=(l.length:Int)-1) om om]
 have g0:¬(l.length:Int)-1<0:=by omega
 have g1:((l.length:Int)==0)=false:=by simp;omega
 simp only [g0,g1,decide_false,Ac,if_false]
 rw [dR om]at g
 have d1:=v2.get (k:=l.length-1) om
 by_cases h1:l.length=1
 ·have g2:((l.length:Int)-1==0)=true:=by simp;omega
  have g3:(l.length:Int)<=2:=by omega
  simp only [g2,g3,decide_true,if_true]
  obtain⟨r,a,t,H,I,u⟩:=log_eq l[l.length-1] om
  have o:bH l ((0:Int),(l.length:Int)-1)=some (.next (l[l.length-1], -1)):=by
   unfold bH
   dsimp only
   rw [if_pos so,mH (i:=l.length-1) om om,zb,w64 om om]
   have:orI .i64 (pI .i64 (0:Int) 30) l[l.length-1]=l[l.length-1]:=by
    obtain⟨b,f⟩:∃b:Nat,l[l.length-1]=b:=⟨l[l.length-1].toNat,om⟩
    rw [f]
    have:=or_gen 0 b om om
    simpa using this
   rw [this]
   congr 3;omega
  have e2:bH l (l[l.length-1], -1)=some (.stop l[l.length-1]):=by
   unfold bH
   rfl
  rw [mH (l:=l) (n:=0) (i:=l.length-1) om om,mK o,mG e2]
  simp only [zb,a,t]
  exact⟨_,rfl,rfl,za,za,u om⟩
 ·have g2:((l.length:Int)-1==0)=false:=by simp;omega
  simp only [g2,Ac,if_false]
  have d2:=v2.get (k:=l.length-2) om
  rw [w64 (n:=(l.length:Int)-1-1) om om,w64 (n:=7680*((l.length:Int)-1-1)) om om,mH (n:=(l.length:Int)-1) (i:=l.length-1) om om,zb,mH (n:=(l.length:Int)-1-1) (i:=l.length-2) om om,zb]
  have c:orI .i64 (pI .i64 l[l.length-1] 30) l[l.length-2]=1073741824*l[l.length-1]+l[l.length-2]:=by
   obtain⟨m,hm⟩:∃m:Nat,l[l.length-1]=m:=⟨l[l.length-1].toNat,om⟩
   obtain⟨b,f⟩:∃b:Nat,l[l.length-2]=b:=⟨l[l.length-2].toNat,om⟩
   rw [hm,f]
   exact or_gen m b om om
  rw [c]
  generalize v:1073741824*l[l.length-1]+l[l.length-2]=T
  obtain⟨r,a,t,H,I,u⟩:=log_eq T om
  rw [a,zb]
  by_cases J:l.length=2
  ·have g3:(l.length:Int)<=2:=by omega
   simp only [g3,decide_true,if_true]
   have o:bH l ((0:Int),(l.length:Int)-1)=some (.next (l[l.length-1],0)):=by
    unfold bH
    dsimp only
    rw [if_pos so,mH (i:=l.length-1) om om,zb,w64 om om]
    have:orI .i64 (pI .i64 (0:Int) 30) l[l.length-1]=l[l.length-1]:=by
     obtain⟨b,f⟩:∃b:Nat,l[l.length-1]=b:=⟨l[l.length-1].toNat,om⟩
     rw [f]
     have:=or_gen 0 b om om
     simpa using this
    rw [this]
    congr 3;omega
   have e2:bH l (l[l.length-1],0)=some (.next (T, -1)):=by
    unfold bH
    dsimp only
    rw [if_pos sm,mH (i:=l.length-2) om om,zb,c,v]
    rfl
   have B:bH l (T, -1)=some (.stop T):=by
    unfold bH
    rfl
   rw [mK o,mK e2,mG B]
   simp only [zb,t]
   rw [show(7680:Int)*((l.length:Int)-1-1)=0 by omega,Int.add_zero,w64 om om]
   exact⟨_,rfl,rfl,za,za,u om⟩
  ·have g3:¬(l.length:Int)<=2:=by omega
   simp only [g3,decide_false,Ac,if_false]
   obtain⟨k,F,G,k3,K,L,N⟩:=digits_eq (n:=T) om om
   have x:31<=k:=by
    apply DO
    intro s
    have:(2:Int) ^ k<=2 ^ 30:=by
     have:=Cn (show 0<2 by decide) (show k<=30 by omega)
     exact_mod_cast this
    have e:(2:Int) ^ 30=1073741824:=by decide
    omega
   unfold dp at a
   have hw:Bw .u64 T=T:=IntWalk.u64_in _ om
   have q:¬T<1:=by omega
   simp only [q,decide_false,Ac,if_false]at a
   rw [hw,F,zb,w64 (n:=(k:Int)-1) om om]at a
   rw [w64 (n:=(l.length:Int)-2) om om,w64 (n:=30*((l.length:Int)-2)) om om,mH (n:=(l.length:Int)-2) (i:=l.length-2) om om]
   simp only [zb,c,v,G]
   rw [w64 (n := (k : Int) - 31) om om, IntWalk.u64_in ((k : Int) - 31) om,
    w64 (n:=30*((l.length:Int)-2)+k) om om,w64 (n:=30*((l.length:Int)-2)+k-1) om om]
   have e:shrO .i64 T ((k:Int)-31)=some (mT .i64 T ((k:Int)-31)):=by unfold shrO;rw [if_neg om]
   obtain⟨d,⟨d0,z⟩,j⟩:=digits_D (mT .i64 T ((k:Int)-31))
   rw [e,zb,lj,j _ om,zb]
   have E:r=(256*((k:Int)-1)+d,0):=by
    by_cases s:(k:Int)-1<=30
    ·simp only [s,decide_true,if_true]at a
     have hk:(k:Int)=31:=by omega
     have es:sI .i64 T (Bw .i64 (30-((k:Int)-1)))=some T:=by
      rw [hk,w64 om om]
      unfold sI
      rw [if_neg om]
      unfold pI
      show some (Bw .i64 (T*1))=_
      rw [Int.mul_one,w64 om om]
     have p:mT .i64 T ((k:Int)-31)=T:=by
      rw [hk]
      show T.fdiv 1=T
      rw [Int.fdiv_one]
     rw [p]at j
     rw [es,zb,j _ om,zb]at a
     exact(Option.some.inj a).symm
    ·simp only [s,decide_false,Ac,if_false]at a
     rw [w64 (n:=(k:Int)-1-30) om om,show(k:Int)-1-30=k-31 by omega,e,zb,j _ om,zb]at a
     exact(Option.some.inj a).symm
   subst E
   refine⟨_,rfl,?_,by simp only;rw [w64 om om];omega,by simp only;rw [w64 om om];omega,rfl⟩
   simp only
   rw [w64 om om]
   congr 2;omega
theorem floorL_at{l:Int}(h: -1000000<=l∧l<=1000000):eF l=some (l*30103 / 256000):=by
 unfold eF gT
 rw [if_pos so,zb]
 dsimp only
 rw [if_neg so,w64 (n:=l*30103) om om]
 have c: -30103000000<=l*30103∧l*30103<=30103000000:=by omega
 generalize l*30103=n at*
 have b:nU .i64 n 256000=some (Bw .i64 (n.tdiv 256000)):=by unfold nU;rw [if_neg om]
 have e2:qQ n 256000=some (n.tmod 256000):=by unfold qQ;rw [if_neg om]
 rw [b,e2,zb,zb]
 rcases CU 0 n with a|a
 ·rw [C6 a,DT a,if_neg so,w64 om om]
 ·obtain⟨m,rfl⟩:∃m,n= -m:=⟨-n,om⟩
  rw [DS,Int.neg_tmod,C6 om,DT om,w64 (n:= -(m / 256000)) om om,w64 om om]
  by_cases hm:m%256000=0
  ·rw [if_neg so];congr 1;omega
  ·rw [if_pos so];congr 1;omega
theorem ceilL_at{l:Int}(h: -1000000<=l∧l<=1000000):gr l=some (-(-l*30103 / 256000)):=by
 unfold gr
 rw [w64 (n:=0-l) om om,floorL_at om,zb,w64 om om]
 congr 1
 rw [show 0-l= -l by omega];omega
theorem half_at'{n:Int}:eV n=some (n / 2):=by
 unfold eV
 show some (n.fdiv (2 ^ (min (1:Int).toNat 64)))=_
 rw [Int.fdiv_eq_ediv_of_nonneg _ (by decide)]
 rfl
end Go.Dw.Es
set_option maxRecDepth 100000
set_option maxHeartbeats 4000000
namespace Go.Dw.Es
open Go.Dw Go.Proofs
theorem stN_of{s:au}(a:s.bp.length<=4000)(h:Iv.vS s=true):StN s:=by
 unfold Iv.vS at h
 by_cases b:s.bu=0
 ·rw [if_pos b]at h
  simp only [A5,Iv.inB,decide_eq_true_eq,beq_iff_eq]at h
  exact⟨by unfold I64;omega,by unfold I64;omega,a,om⟩
 rw [if_neg b]at h
 by_cases h1:s.bu=1
 ·rw [if_pos h1]at h
  simp only [A5,Iv.kq,Iv.inB,List.all_cons,decide_eq_true_eq,beq_iff_eq]at h
  exact⟨by unfold I64;omega,by unfold I64;omega,a,om⟩
 rw [if_neg h1]at h
 by_cases c:s.bu=2
 ·rw [if_pos c]at h
  simp only [A5,Iv.inB,decide_eq_true_eq,beq_iff_eq]at h
  exact⟨by unfold I64;omega,by unfold I64;omega,a,om⟩
 rw [if_neg c]at h
 cases h
theorem Gain_eq{r:aA}(b:fb r)(n d:Int):∃x y,hP r n d=some x∧kc r n d=some y∧
  ((x.2=0∧y=x∧vN x.1.aQ=true∧vN x.1.aL=true∧x.1.aL≠ [])∨(x.2≠0∧(y.2≠0∨y.1.aQ=[]))):=by
 unfold hP kc
 rw [Iv.vP_eq b.rok,Iv.ref_vP_eq b.rok]
 simp only [zb]
 cases c:Iv.vP r with
 |false=>exact⟨_,_,rfl,rfl,.inr ⟨by decide,.inl (by decide)⟩⟩
 |true=>
  simp only [DL,Ac,if_false]
  rw [Iv.pin_eq,Iv.pin_eq,Iv.In_eq,Iv.In_eq]
  simp only [zb]
  cases h1:Iv.inB n 0 65536 with
  |false=>exact⟨_,_,rfl,rfl,.inr ⟨by decide,.inl (by decide)⟩⟩
  |true=>
   cases i:Iv.inB d 1 65536 with
   |false=>exact⟨_,_,rfl,rfl,.inr ⟨by decide,.inl (by decide)⟩⟩
   |true=>
    simp only [DL,Ac,if_false]
    unfold Iv.vP at c
    simp only [A5,decide_eq_true_eq,List.all_eq_true]at c
    have a:∀s∈r.aD,StN s:=fun s a=>stN_of (by have:=b.2 s a;omega) (c.2.1 s a)
    obtain⟨o,j,e,e2,g⟩:=gain_loop (r:=r) om a n d r.aD.length 0 om [1] [1] (by decide) (by decide) (by decide)
    have f:((0:Nat):Int)=0:=rfl
    rw [f]at e e2
    rw [e,e2]
    simp only [zb]
    rcases o with p|q
    ·obtain⟨rfl,g1,g2,g3⟩:=g
     exact⟨_,_,rfl,rfl,.inl ⟨rfl,rfl,g1,g2,g3⟩⟩
    ·obtain⟨g1,rfl|⟨k,rfl,g2⟩⟩:=g
     ·exact⟨_,_,rfl,rfl,.inr ⟨g1,.inr rfl⟩⟩
     ·exact⟨_,_,rfl,rfl,.inr ⟨g1,.inl g2⟩⟩
theorem scale_eq(s:aM):bQ s=d9 s∧∃b,bQ s=some b:=by
 unfold bQ d9
 rcases ko s.aV with⟨a,e2, -⟩|⟨a,e2, -⟩
 ·rw [a,e2]
  refine⟨rfl,?_⟩
  simp only [zb]
  repeat' split
  all_goals exact⟨_,rfl⟩
 ·rw [a,e2]
  exact⟨rfl,_,rfl⟩
theorem rfloorL_at{l:Int}(h: -1000000<=l∧l<=1000000):ij l=some (l*30103 / 256000):=by
 unfold ij
 rw [if_neg so,if_neg so,w64 (n:=l*30103) om om]
 have c: -30103000000<=l*30103∧l*30103<=30103000000:=by omega
 generalize l*30103=n at*
 have b:nU .i64 n 256000=some (Bw .i64 (n.tdiv 256000)):=by unfold nU;rw [if_neg om]
 rw [b,zb]
 rcases CU 0 n with a|a
 ·rw [C6 a,w64 (n:=n / 256000) om om,w64 (n:=n / 256000*256000) om om,if_neg so]
 ·obtain⟨m,rfl⟩:∃m,n= -m:=⟨-n,om⟩
  rw [DS,C6 om,w64 (n:= -(m / 256000)) om om,w64 (n:= -(m / 256000)*256000) om om]
  by_cases hm:m%256000=0
  ·rw [if_neg so];congr 1;omega
  ·rw [if_pos so,w64 om om];congr 1;omega
theorem rceilL_at{l:Int}(h: -1000000<=l∧l<=1000000):kg l=some (-(-l*30103 / 256000)):=by
 unfold kg
 rw [w64 (n:=0-l) om om,rfloorL_at om,zb,w64 om om]
 congr 1
 rw [show 0-l= -l by omega];omega
theorem and1{n:Int}(h: -9223372036854775808<=n∧n<=9223372036854775807):andI .i64 n 1=n%2:=by
 unfold andI
 show Bw .i64 (((BitVec.ofInt 64 n &&& BitVec.ofInt 64 1).toNat:Nat):Int)=_
 rw [BitVec.toNat_and,BitVec.toNat_ofInt]
 have e:(BitVec.ofInt 64 1).toNat=1:=by decide
 rw [e,Nat.and_one_is_mod]
 rw [w64 om om]
 omega
theorem rhalf_at{n:Int}(h: -4000000000<=n∧n<=4000000000):jc n=some (n / 2):=by
 unfold jc
 rw [and1 om,w64 (n:=n-n%2) om om]
 unfold nU
 rw [if_neg (by decide),zb]
 have:(n-n%2).tdiv 2=n / 2:=by
  rw [show n-n%2=2*(n / 2)by omega]
  rw [Int.mul_comm,Int.mul_tdiv_cancel _ (by decide)]
 rw [this,w64 om om]
theorem station_eq(s:aM){r:aA}(J:fb r)(am:Int){a b:Int}(G:b<=13194139533312):∃x y,eO s r am a b=some x∧fI s r am a b=some y∧((x.2=0∧y=x)∨(x.2≠0∧y.2≠0)):=by
 obtain⟨L,c,K⟩:=scale_eq s
 unfold eO fI
 rw [<-L,K]
 simp only [zb]
 have err:∀{n m:Int}{f g:av},n≠0->m≠0->∃x y:av×Int,some (f,n)=some x∧some (g,m)=some y∧((x.2=0∧y=x)∨(x.2≠0∧y.2≠0)):=fun h F=>⟨_,_,rfl,rfl,.inr ⟨h,F⟩⟩
 cases c with
 |false=>exact err (by decide) (by decide)
 |true=>
  simp only [DL,Ac,if_false]
  by_cases h1:am<1
  ·simp only [h1,decide_true,if_true];exact err (by decide) (by decide)
  simp only [h1,decide_false,Ac,if_false]
  by_cases B:am>1073741823
  ·simp only [B,decide_true,if_true];exact err (by decide) (by decide)
  simp only [B,decide_false,Ac,if_false]
  unfold gV
  obtain⟨x,y,E,e2,g⟩:=Gain_eq J s.aQ s.aL
  obtain⟨t,t1,t2⟩:=between_eq s.aV (a:=a) G
  rw [E,e2]
  simp only [zb]
  rcases g with⟨g0,rfl,g1,g2,g3⟩|⟨g0,g1⟩
  ·obtain⟨p,k,l,C,D,o⟩:∃p,dp am=some p∧iO am=some p∧ -256<=p.1∧p.1<=16400∧p.2=0:=by
    obtain⟨p,k,l,C,D,o⟩:=log_eq am om
    exact⟨p,k,l,C,D,o om⟩
   have z0:(y.2 != 0)=false:=by simp [g0]
   rw [z0]
   simp only [Ac,if_false]
   by_cases e:y.1.aQ=[]
   ·have:cC y.1.aQ=some (0,2):=by
     rw [e];unfold cC
     rw [nv_eq sm]
     rfl
    rw [this,e]
    exact err (by decide) (by decide)
   ·obtain⟨u,u1,u2,T,W,N⟩:=logNat_eq g1 e
    obtain⟨v,v1,v2,v3,v4,v5⟩:=logNat_eq g2 g3
    have H:((y.1.aQ.length:Int)==0)=false:=by
     have:=List.length_pos_iff.2 e
     simp;exact e
    rw [H,u1,u2,v1,v2,k,l,t1,t2]
    have O:(u.2 != 0)=false:=by simp [N]
    have z2:(v.2 != 0)=false:=by simp [v5]
    have z3:(p.2 != 0)=false:=by simp [o]
    simp only [zb,O,z2,z3,Ac,if_false]
    by_cases i:t.2.2=0
    ·have z4:(t.2.2 != 0)=false:=by simp [i]
     simp only [z4,Ac,if_false]
     rw [w64 (n:=2*p.1) om om,w64 (n:=2*p.1+v.1) om om,w64 (n:=2*p.1+v.1-u.1) om om]
     generalize Q:2*p.1+v.1-u.1=q
     have I: -700000<=q∧q<=700000:=by omega
     rw [w64 (n := q - 2) om om, w64 (n := 0 - q) om om, w64 (n := 0 - q - 6) om om, w64 (n := q + 6) om om, w64 (n := 0 - (q + 6)) om om,
      half_at',half_at',rhalf_at om,rhalf_at om]
     simp only [zb]
     rw [floorL_at om,rfloorL_at om]
     simp only [zb]
     rw [show 0-q-6=0-(q+6)by omega,w64 (n:=0-(0-(q+6)) / 2) om om,ceilL_at om,rceilL_at om]
     exact⟨_,_,rfl,rfl,.inl ⟨rfl,rfl⟩⟩
    ·have z4:(t.2.2 != 0)=true:=by simp [i]
     simp only [z4,if_true]
     exact err i i
  ·have z0:(x.2 != 0)=true:=by simp [g0]
   rw [z0]
   simp only [if_true,zb,z0]
   by_cases j:y.2=0
   ·have z:(y.2 != 0)=false:=by simp [j]
    have e:y.1.aQ=[]:=g1.resolve_left (fun h=>h j)
    rw [z,e]
    exact err g0 (by decide)
   ·have z:(y.2 != 0)=true:=by simp [j]
    rw [z]
    exact err g0 j
end Go.Dw.Es
set_option maxRecDepth 100000
set_option maxHeartbeats 4000000
namespace Go.Dw.Es
open Go.Dw
open Sd (fx fy eJ)
theorem find_l18{l out:List Pick}{i:Nat}(hi:i<l.length)(p:out.length<=1000):
  ∃k:Nat,mF (gz out l (i:Int)) (out.length:Int)=some ((i:Int),(k:Int),out)∧k<=out.length∧(∀j,(h:k<=j)->(b:j<out.length)->0<fp out[j] l[i])∧(∀h:0<k,∀b:k-1<out.length,¬0<fp (out[k-1]) l[i]):=by
 obtain⟨o,h1,k,rfl,g⟩:=oY (body:=gz out l (i:Int)) (fun s:Int=>∃k:Nat,s=(k:Int)∧k<=out.length∧∀j,(h:k<=j)->(b:j<out.length)->0<fp out[j] l[i]) (fun s=>s.toNat)
  (fun o => ∃ k : Nat, o = ((i : Int), (k : Int), out) ∧ k ≤ out.length ∧ (∀ j, (h : k ≤ j) → (b : j < out.length) → 0 < fp out[j] l[i]) ∧ (∀ h : 0 < k, ∀ b : k - 1 < out.length, ¬ 0 < fp (out[k - 1]) l[i])) (by
  rintro s ⟨k,rfl,hk,a⟩
  unfold gz
  by_cases h:0<k
  ·rw [if_pos so,w64 (n:=(k:Int)-1) om om,qb om om,mH (i:=k-1) om om,mH (i:=i) rfl hi]
   simp only [zb,gE]
   by_cases f:fp (out[k-1]'om) l[i]>0
   ·rw [if_pos (by simpa using f)]
    refine .inl ⟨_,rfl,⟨k-1,om,om,fun j m c=>?_⟩,om⟩
    by_cases e:j=k-1
    ·subst e;exact f
    ·exact a j om c
   ·rw [if_neg (by simpa using f)]
    exact .inr ⟨_,rfl,k,rfl,hk,a,fun _ _=>f⟩
  ·rw [if_neg so]
   exact .inr ⟨_,rfl,k,rfl,hk,a,fun b=>(h b).elim⟩) (out.length:Int) ⟨out.length,rfl,AB _,fun j m c=>om⟩
 exact⟨k,h1,g⟩
theorem shift_eq{out:List Pick}{x:Pick}{k:Nat}(hk:k<=out.length):
  (tM (out++[x]) (k+1) (out.length+1-(k+1)) (((out++[x]).drop k).take (out.length+1-k))).set k x=out.take k++x::out.drop k:=by
 have e:(out++[x]).drop k=out.drop k++[x]:=List.drop_append_of_le_length hk
 have b:((out++[x]).drop k).take (out.length+1-k)=out.drop k++[x]:=by
  rw [e];exact DZ so
 unfold tM
 rw [b]
 have a:Nat.min (out.drop k++[x]).length (out.length+1-(k+1))=out.length-k:=by
  show min _ _=_
  simp
 rw [a]
 have f:(out.drop k++[x]).take (out.length-k)=out.drop k:=by
  rw [DY sm]
  exact DZ sm
 have g:(out++[x]).drop (k+1+(out.length-k))=[]:=List.drop_eq_nil_of_le so
 rw [f,g,List.append_nil]
 have c:(out++[x]).take (k+1)=out.take k++[(out++[x])[k]'so]:=by
  rw [mY so,DY hk]
 rw [c,List.append_assoc,List.set_append_right _ _ so]
 simp [Nat.min_eq_left hk]
theorem k31_eq{l out:List Pick}{i k:Nat}(hi:i<l.length)(b:l.length<=1000)(c:out.length<=1000)(hk:k<=out.length):
  d7 l ((i:Int),(k:Int),out)=some (.next (((i+1:Nat):Int),out.take k++l[i]::out.drop k)):=by
 unfold d7
 simp only
 rw [mH (i:=i) rfl hi,zb,lm so,zb]
 have hlen:(out++[l[i]]).length=out.length+1:=by simp
 rw [w64 (n:=(k:Int)+1) om om,w64 (n:=(i:Int)+1) om om,hlen]
 rw [su om om om,zb,su om om om,zb]
 have t1:(0+((k:Int)+1).toNat)=k+1:=by omega
 have t2:(0+(((out.length+1:Nat):Int)).toNat)=out.length+1:=by omega
 have t3:(0+((k:Int)).toNat)=k:=by omega
 rw [t1,t2,t3,wh om om,zb,vX om om,zb,zb]
 have a:(tM (out++[l[i]]) (k+1) (out.length+1-(k+1)) (((out++[l[i]]).drop k).take (out.length+1-k))).length=out.length+1:=by
  have:=congrArg List.length (shift_eq (x:=l[i]) hk)
  rw [List.length_set]at this
  rw [this]
  simp
  omega
 rw [qb om om,zb,ss (i:=k) rfl om,zb,shift_eq hk]
 rfl
theorem ins_sorted{out:List Pick}{x:Pick}{k:Nat}(q:out.Pairwise (fun x y=>fp x y<0))(hk:k<=out.length)(h1:∀j,(h:k<=j)->(o:j<out.length)->0<fp out[j] x)
  (p:∀h:0<k,∀o:k-1<out.length,¬0<fp (out[k-1]) x∧out[k-1]≠x):(out.take k++x::out.drop k).Pairwise (fun x y=>fp x y<0):=by
 have c:(out.take k++out.drop k).Pairwise (fun x y=>fp x y<0):=by rwa [DX]
 obtain⟨t,u,v⟩:=List.pairwise_append.1 c
 have g:∀y∈out.drop k,fp x y<0:=fun y m=>by
  obtain⟨j,i,rfl⟩:=Cg m
  simp only [List.length_drop]at i
  rw [List.getElem_drop]
  have:=h1 (k+j) om om
  have:=dF.p8 x out[k+j]
  omega
 have l:∀y∈out.take k,fp y x<0:=fun y m=>by
  obtain⟨j,i,rfl⟩:=Cg m
  simp only [List.length_take]at i
  rw [List.getElem_take]
  obtain⟨g1,g2⟩:=p om om
  have r:fp (out[k-1]'om) x<0:=by
   have:=dF.p8 (out[k-1]'om) x
   by_cases s:fp (out[k-1]'om) x=0
   ·exact(g2 (cmpP_zero s)).elim
   ·omega
  by_cases e:j=k-1
  ·subst e;exact r
  ·have:=List.pairwise_iff_getElem.1 q j (k-1) om om om
   exact dF.lt this om
 refine List.pairwise_append.2 ⟨t,List.pairwise_cons.2 ⟨g,u⟩,fun a n b f=>?_⟩
 rcases List.mem_cons.1 f with rfl|f
 ·exact l a n
 ·exact v a n b f
theorem ref_Sort_eq{l:List Pick}(t:l.length<=1000):∃r,iZ l=some r∧r.Pairwise (fun x y=>fp x y<0)∧(∀x,x∈r↔x∈l):=by
 obtain⟨o,h1,q,s⟩:=oY (body:=i8 l) (fun st:Int×List Pick=>∃(i:Nat)(out:List Pick),st=((i:Int),out)∧i<=l.length∧out.length<=i∧out.Pairwise (fun x y=>fp x y<0)∧∀x,x∈out↔x∈l.take i) (fun st=>((l.length:Int)-st.1).toNat)
  (fun o => o.Pairwise (fun x y => fp x y < 0) ∧ ∀ x, x ∈ o ↔ x ∈ l) (by
  rintro st ⟨i,out,rfl,hi,u,m,hm⟩
  unfold i8
  simp only
  by_cases a:i<l.length
  ·rw [if_pos so]
   obtain⟨k,p,hk,g,e⟩:=find_l18 (l:=l) (out:=out) a om
   rw [p,zb]
   refine .inl ?_
   have b:(∀h:0<k,∀c:k-1<out.length,out[k-1]≠l[i])->∃s',d7 l ((i:Int),(k:Int),out)=some (.next s')∧(∃(i:Nat)(out:List Pick),s'=((i:Int),out)∧i<=l.length∧out.length<=i∧out.Pairwise (fun x y=>fp x y<0)∧∀x,x∈out↔x∈l.take i)∧((l.length:Int)-s'.1).toNat<((l.length:Int)-(i:Int)).toNat:=fun j=>by
    refine⟨_,k31_eq a t om hk,⟨i+1,_,rfl,om,so,ins_sorted m hk g (fun h c=>⟨e h c,j h c⟩),fun x=>?_⟩,za⟩
    rw [mY a,Bj,List.mem_cons,Bj, <-hm x]
    have:x∈out↔x∈out.take k∨x∈out.drop k:=by rw [<-Bj,DX]
    rw [this]
    simp only [Bk]
    constructor
    ·rintro(h|h|h)
     ·exact .inl (.inl h)
     ·exact .inr h
     ·exact .inl (.inr h)
    ·rintro((h|h)|h)
     ·exact .inl h
     ·exact .inr (.inr h)
     ·exact .inr (.inl h)
   dsimp only
   by_cases f:0<k
   ·rw [if_pos so,w64 (n:=(k:Int)-1) om om,qb om om,mH (i:=k-1) om om,mH (i:=i) rfl a]
    simp only [zb]
    rw [show(_&&_)=eqF (out[k-1]'om) l[i]from rfl,eqs]
    by_cases he:out[k-1]'om=l[i]
    ·rw [if_pos (by simpa using he),w64 om om]
     refine⟨_,rfl,⟨i+1,out,sm,om,om,m,fun x=>?_⟩,za⟩
     rw [mY a,Bj, <-hm x,Bk]
     refine⟨.inl,fun h=>h.elim id fun h=>?_⟩
     subst h
     rw [<-he]
     exact Aa _
    ·rw [if_neg (by simpa using he)]
     exact b fun _ _=>he
   ·rw [if_neg so]
    exact b fun h=>(f h).elim
  ·rw [if_neg so]
   refine .inr ⟨_,rfl,m,fun x=>?_⟩
   rw [hm x,DZ om]) (0,[]) ⟨0,[],rfl,AL _,AB _,.nil,fun x=>sm⟩
 refine⟨o,?_,q,s⟩
 unfold iZ
 rw [h1];rfl
end Go.Dw.Es
set_option maxRecDepth 100000
set_option maxHeartbeats 4000000
namespace Go.Dw.Es
open Go.Dw Go.Proofs
open Sd (fx fy eJ)
structure SetP(s:ag):Prop where
 box:BoxP s.ae.aU
 tab:me s.ae.bj
 cap:1<=s.ae.gK∧s.ae.gK<=1099511627776
 tol:0<=s.ae.aK∧s.ae.aK<=1099511627776
 lim:0<=s.ae.ce∧s.ae.ce<=1099511627776
 span:0<=s.ae.dn∧s.ae.dn<=1099511627776
 least:2<=s.ae.b9∧s.ae.b9<=16
 cor:me s.bi.aV
 num:0<=s.bi.aQ∧s.bi.aQ<=65536
 den:1<=s.bi.aL∧s.bi.aL<=65536
 tol2:0<=s.aK∧s.aK<=1099511627776
theorem ain_at(a b c:Int):ev a b c=some (Iv.inB a b c):=Iv.rin_eq a b c
theorem lq{a b c:Int}:Iv.inB a b c=true↔b<=a∧a<=c:=by unfold Iv.inB;simp
theorem mi{a b c:Int}(h:Iv.inB a b c=false):¬(b<=a∧a<=c):=fun e=>by rw [lq.2 e]at h;cases h
theorem scale_ok'(s:aM):Ok (bQ s) (fun b=>b=true↔me s.aV∧(0<=s.aQ∧s.aQ<=65536)∧1<=s.aL∧s.aL<=65536):=by
 unfold bQ
 rcases ko s.aV with⟨a, -,c⟩|⟨a, -,c⟩
 ·rw [a,zb]
  refine DB (fun _=>?_) (fun h=>(h rfl).elim)
  refine Cy (fun _=>Cy (fun _=>Cy (fun _=>DD ?_) (fun _=>DD ?_)) (fun _=>DD ?_)) (fun _=>DD ?_)
  ·rw [decide_eq_true_eq];exact⟨fun h=>⟨c,⟨om,om⟩,om,h⟩,fun h=>h.2.2.2⟩
  ·exact⟨nofun,fun h=>by have:=h.2;omega⟩
  ·exact⟨nofun,fun h=>by have:=h.2;omega⟩
  ·exact⟨nofun,fun h=>by have:=h.2;omega⟩
 ·rw [a,zb]
  refine DB (nofun) (fun _=>DD ⟨nofun,fun h=>(c h.1).elim⟩)
theorem set_ok(s:ag):Ok (cX s) (fun e=>e=0∧SetP s∨e=27∧¬SetP s):=by
 unfold cX
 have t:Ok (et s.ae []) (fun e=>e=0∧(BoxP s.ae.aU∧me s.ae.bj∧(1<=s.ae.gK∧s.ae.gK<=1099511627776)∧(0<=s.ae.aK∧s.ae.aK<=1099511627776)∧(0<=s.ae.ce∧s.ae.ce<=1099511627776)∧(0<=s.ae.dn∧s.ae.dn<=1099511627776)∧2<=s.ae.b9∧s.ae.b9<=16)∨e≠0∧¬SetP s):=by
  unfold et
  rw [box_at,zb]
  refine Ok.iteND (fun h=>DD (.inr ⟨by decide,fun e=>h e.box⟩)) (fun a=>?_)
  rcases ko s.ae.bj with⟨c, -,f⟩|⟨c, -,f⟩
  rotate_left
  ·rw [c,zb]
   exact Ok.xL (fun _=>DD (.inr ⟨by decide,fun e=>f e.tab⟩)) (nofun)
  rw [c,zb]
  refine Ok.xL (fun h=>(h rfl).elim) (fun _=>?_)
  rw [ain_at,ain_at,ain_at,ain_at,ain_at,zb]
  refine DR (fun h=>DD (.inr ⟨by decide,fun e=>mi h e.cap⟩)) (fun h1=>?_)
  rw [zb]
  refine DR (fun h=>DD (.inr ⟨by decide,fun e=>mi h e.tol⟩)) (fun o=>?_)
  rw [zb]
  refine DR (fun h=>DD (.inr ⟨by decide,fun e=>mi h e.lim⟩)) (fun p=>?_)
  rw [zb]
  refine DR (fun h=>DD (.inr ⟨by decide,fun e=>mi h e.span⟩)) (fun q=>?_)
  rw [zb]
  refine DR (fun h=>DD (.inr ⟨by decide,fun e=>mi h e.least⟩)) (fun r=>?_)
  refine Cy (fun h=>by simp at h) (fun _=>?_)
  have:mF (eu [] s.ae) (0:Int)=some (.inl ()):=mG (by unfold eu;rfl)
  rw [this]
  exact DD (.inl ⟨rfl,a,f,lq.1 h1,lq.1 o,lq.1 p,lq.1 q,lq.1 r⟩)
 refine Cs t (fun e he=>?_)
 refine Ok.xL (fun h=>DD (.inr ⟨rfl,(he.resolve_left (fun g=>h g.1)).2⟩)) (fun n=>?_)
 obtain⟨-,a1,a2,a3,a4,a5,i,j⟩:=he.resolve_right (fun g=>g.1 n)
 refine Cs (scale_ok' s.bi) (fun b a=>?_)
 refine DR (fun h=>DD (.inr ⟨rfl,fun e=>by rw [a.2 ⟨e.cor,e.num,e.den⟩]at h;cases h⟩)) (fun h=>?_)
 obtain⟨k,l,m⟩:=a.1 h
 exact Cy (fun h=>DD (.inr ⟨rfl,fun e=>by have:=e.tol2;omega⟩)) (fun _=>Cy (fun h=>DD (.inr ⟨rfl,fun e=>by have:=e.tol2;omega⟩)) (fun _=>DD (.inl ⟨rfl,a1,a2,a3,a4,a5,i,j,k,l,m,om,om⟩)))
theorem rset_ok(s:ag):Ok (bZ s) (fun e=>e=0∧SetP s∨e=27∧¬SetP s):=by
 unfold bZ
 have n:Ok (gB s.ae) (fun b=>(b=true->BoxP s.ae.aU∧me s.ae.bj∧(1<=s.ae.gK∧s.ae.gK<=1099511627776)∧(0<=s.ae.aK∧s.ae.aK<=1099511627776)∧(0<=s.ae.ce∧s.ae.ce<=1099511627776)∧(0<=s.ae.dn∧s.ae.dn<=1099511627776)∧2<=s.ae.b9∧s.ae.b9<=16)∧(b=false->¬SetP s)):=by
  unfold gB
  rw [mu,zb]
  refine Cy (fun a=>?_) (fun h=>DD ⟨nofun,fun _ e=>h e.box⟩)
  rcases ko s.ae.bj with⟨-,c,f⟩|⟨-,c,f⟩
  rotate_left
  ·rw [c,zb]
   exact DB (nofun) (fun _=>DD ⟨nofun,fun _ e=>f e.tab⟩)
  rw [c,zb]
  refine DB (fun _=>?_) (fun h=>(h rfl).elim)
  have no:(SetP s->False)->Ok (some false) (fun b=>(b=true->BoxP s.ae.aU∧me s.ae.bj∧(1<=s.ae.gK∧s.ae.gK<=1099511627776)∧(0<=s.ae.aK∧s.ae.aK<=1099511627776)∧(0<=s.ae.ce∧s.ae.ce<=1099511627776)∧(0<=s.ae.dn∧s.ae.dn<=1099511627776)∧2<=s.ae.b9∧s.ae.b9<=16)∧(b=false->¬SetP s)):=fun h=>DD ⟨nofun,fun _=>h⟩
  refine Cy (fun _=>Cy (fun _=>Cy (fun _=>Cy (fun _=>Cy (fun _=>Cy (fun _=>Cy (fun _=>Cy (fun _=>Cy (fun _=>DD ?_) ?_) ?_) ?_) ?_) ?_) ?_) ?_) ?_) ?_
  ·constructor
   ·intro h;rw [decide_eq_true_eq]at h
    exact⟨a,f,⟨om,om⟩,⟨om,om⟩,⟨om,om⟩,⟨om,om⟩,om,h⟩
   ·intro h e;rw [decide_eq_false_iff_not]at h;exact h e.least.2
  ·exact fun h=>no fun e=>by have:=e.least;omega
  ·exact fun h=>no fun e=>by have:=e.span;omega
  ·exact fun h=>no fun e=>by have:=e.span;omega
  ·exact fun h=>no fun e=>by have:=e.lim;omega
  ·exact fun h=>no fun e=>by have:=e.lim;omega
  ·exact fun h=>no fun e=>by have:=e.tol;omega
  ·exact fun h=>no fun e=>by have:=e.tol;omega
  ·exact fun h=>no fun e=>by have:=e.cap;omega
  ·exact fun h=>no fun e=>by have:=e.cap;omega
 refine Cs n (fun e he=>?_)
 refine DR (fun h=>DD (.inr ⟨rfl,he.2 h⟩)) (fun m=>?_)
 obtain⟨a1,a2,a3,a4,a5,g,i⟩:=he.1 m
 rw [<-(scale_eq s.bi).1]
 refine Cs (scale_ok' s.bi) (fun b a=>?_)
 refine DR (fun h=>DD (.inr ⟨rfl,fun e=>by rw [a.2 ⟨e.cor,e.num,e.den⟩]at h;cases h⟩)) (fun h=>?_)
 obtain⟨j,k,l⟩:=a.1 h
 exact Cy (fun h=>DD (.inr ⟨rfl,fun e=>by have:=e.tol2;omega⟩)) (fun _=>Cy (fun h=>DD (.inr ⟨rfl,fun e=>by have:=e.tol2;omega⟩)) (fun _=>DD (.inl ⟨rfl,a1,a2,a3,a4,a5,g,i,j,k,l,om,om⟩)))
theorem set_two(s:ag):(cX s=some 0∧bZ s=some 0∧SetP s)∨(cX s=some 27∧bZ s=some 27):=by
 obtain⟨a,a1,a2⟩:=set_ok s
 obtain⟨b,e,c⟩:=rset_ok s
 rcases a2 with⟨rfl,a2⟩|⟨rfl,a2⟩<;>rcases c with⟨rfl,c⟩|⟨rfl,c⟩
 ·exact .inl ⟨a1,e,a2⟩
 ·exact(c a2).elim
 ·exact(a2 c).elim
 ·exact .inr ⟨a1,e⟩
theorem interval_eq{t:ap}(i:me t)(b:aq)(p:ac):∃r,gm t b p=some r∧gA t b p=some r∧(¬PosP p->r.2.2≠0):=by
 unfold gm gA
 rcases ko t with⟨g,e2, -⟩|⟨-, -,h⟩
 rotate_left
 ·exact(h i).elim
 rw [g,e2,box_at,mu,pos_at,mC]
 simp only [zb,bne_self_eq_false,Ac,if_false]
 by_cases e:BoxP b
 ·rw [decide_eq_true e]
  simp only [DL,Ac,if_false]
  by_cases c:PosP p
  ·rw [decide_eq_true c]
   simp only [DL,Ac,if_false]
   unfold jw
   obtain⟨n,n1,j,m,o⟩:=near_eq b p
   obtain⟨f,f1,f2,f3,f4⟩:=far_eq b p
   obtain⟨r,k,l⟩:=between_eq t (a:=n) f4
   simp only [n1,j,f1,f2,zb,k,l]
   exact⟨_,rfl,rfl,fun h=>(h c).elim⟩
  ·rw [decide_eq_false c]
   exact⟨(0,0,20),rfl,rfl,fun _=>by decide⟩
 ·rw [decide_eq_false e]
  exact⟨(0,0,20),rfl,rfl,fun _=>by decide⟩
theorem epAt_len{v:ah}(b:InvLen v){s:Sid}{t:Int}{e:al}(h:epAt v s t=some e):fb e.ba:=by
 unfold epAt at h
 cases a:chan v s with
 |none=>rw [a]at h;cases h
 |some c=>
  rw [a]at h
  exact(b.all c (chan_mem a).1).2 e (epIn_mem h).1
theorem atR_len{v:ah}(h:IA v)(s:Sid)(t:Int):fb (atR v s t).1.ba:=by
 unfold atR
 have a:fb zEp.ba:=⟨by simp [zEp],by simp [zEp]⟩
 split
 ·cases b:epAt v s t with
  |none=>exact a
  |some e=>exact epAt_len h.len b
 ·exact a
theorem used_eq{s:ag}(g:SetP s)(o:bZ s=some 0){v:ah}(f:IA v){p:Pick}(k:SLen p):∃(ok:Bool)(j b:aC)(c:al),dP s v p=some (j,c,ok)∧gD s v p=some (b,ok)∧
  (ok=true->c=(atR v p.az p.br).1∧j.aS=c.aI∧j=b∧fb c.ba):=by
 unfold dP gD
 rw [o,vp_eq k,ref_vp_eq k,At_any f,refAt_any f]
 simp only [zb,bne_self_eq_false,Ac,if_false]
 cases hk:vPk p with
 |false=>exact⟨false,_,_,_,rfl,rfl,nofun⟩
 |true=>
  simp only [DL,Ac,if_false]
  have n:=atR_len f p.az p.br
  generalize atR v p.az p.br=x at*
  by_cases l:x.2=0
  rotate_left
  ·have:(x.2 != 0)=true:=by simp [l]
   simp only [this,if_true]
   exact⟨false,_,_,_,rfl,rfl,nofun⟩
  have i:(x.2 != 0)=false:=by simp [l]
  simp only [i,Ac,if_false]
  obtain⟨r,q,t,u⟩:=interval_eq g.tab s.ae.aU x.1.aI
  rw [t,zb]
  unfold jR gQ
  rcases ko s.ae.bj with⟨m, -, -⟩|⟨-, -,h⟩
  rotate_left
  ·exact(h g.tab).elim
  rw [m,box_at,pos_at,decide_eq_true g.box]
  simp only [zb,bne_self_eq_false,Ac,if_false,DL]
  unfold vPk at hk
  simp only [A5,decide_eq_true_eq]at hk
  obtain⟨-,y,z,k3,B, -⟩:=hk
  by_cases a:PosP x.1.aI
  ·rw [decide_eq_true a,if_pos rfl,if_pos so,if_pos so,if_pos so,if_pos sm,zb,q]
   simp only [zb]
   by_cases e:r.2.2=0
   ·have:(r.2.2 != 0)=false:=by simp [e]
    simp only [this,Ac,if_false,zb,show(1:Int)<=100 by decide,decide_true,DL,bne_self_eq_false]
    exact⟨true,_,_,_,rfl,rfl,fun _=>⟨rfl,rfl,rfl,n⟩⟩
   ·have:(r.2.2 != 0)=true:=by simp [e]
    simp only [this,if_true,zb,show(1:Int)<=100 by decide,decide_true,DL,Ac,if_false]
    exact⟨false,_,_,_,rfl,rfl,nofun⟩
  ·have e:(r.2.2 != 0)=true:=by simp [u a]
   rw [decide_eq_false a,e]
   exact⟨false,_,_,_,rfl,rfl,nofun⟩
end Go.Dw.Es
set_option maxRecDepth 100000
set_option maxHeartbeats 4000000
namespace Go.Dw.Es
open Go.Dw Go.Proofs
open Sd (fx fy eJ)
theorem lk{α:Type}(l:List α):l.take l.length=l:=List.take_length
theorem smallR(r:aA)(h:r.aD.length<=9223372036854775807):Ok (ex r) (fun b=>b=true->fb r):=by
 unfold ex
 refine Cs (P:=fun o=>o= .inr false∨(o= .inl ()∧∀x∈r.aD,x.bp.length<=200)) (Cx (fun s:Int=>∃i:Nat,s=i∧i<=r.aD.length∧∀x∈r.aD.take i,x.bp.length<=200) (fun s=>((r.aD.length:Int)-s).toNat) ?_ ⟨0,rfl,AL _,sm⟩) (fun o f=>?_)
 ·rintro s ⟨i,rfl,i1,i2⟩
  unfold gN
  refine Cy (fun e=>?_) (fun c=>?_)
  ·have hi:i<r.aD.length:=by omega
   rw [mH rfl hi,zb,w64 om om]
   refine Cy (fun _=>DF (.inl rfl)) (fun hle=>DA ⟨i+1,sm,om,fun x a=>?_⟩ om)
   rw [mY hi]at a
   rcases List.mem_append.1 a with a|a
   ·exact i2 x a
   ·rw [List.mem_singleton.1 a];omega
  ·have:i=r.aD.length:=by omega
   subst this
   exact DF (.inr ⟨rfl,by rw [lk]at i2;exact i2⟩)
 ·rcases f with rfl|⟨rfl,g⟩
  ·exact DD sm
  ·refine DD fun h=>⟨?_,fun x a=>by have:=g x a;omega⟩
   have:(r.aD.length:Int)<=12:=by simpa using h
   omega
structure ArgI(v:ah):Prop where
 len:v.aw.length<=9223372036854775807
 src:∀c∈v.aw,Sq.SidLen c.az
 eps:∀c∈v.aw,∀e∈c.aH,e.ba.aD.length<=9223372036854775807
theorem smallI(v:ah)(h:ArgI v):Ok (dT v) (fun b=>b=true->IA v):=by
 have r:=h.len
 unfold dT
 refine Cs (P:=fun o=>o= .inr false∨(o= .inl ()∧∀x∈v.aw,ChLen x)) (Cx (fun s:Int=>∃i:Nat,s=i∧i<=v.aw.length∧∀x∈v.aw.take i,ChLen x) (fun s=>((v.aw.length:Int)-s).toNat) ?_ ⟨0,rfl,AL _,sm⟩) (fun o l=>?_)
 ·rintro s ⟨i,rfl,i1,i2⟩
  unfold gd
  refine Cy (fun j=>?_) (fun g=>?_)
  rotate_left
  ·have:i=v.aw.length:=by omega
   subst this
   exact DF (.inr ⟨rfl,by rw [lk]at i2;exact i2⟩)
  have hi:i<v.aw.length:=by omega
  have n:=h.eps _ (Aa hi)
  rw [mH rfl hi,zb]
  refine Cy (fun _=>DF (.inl rfl)) (fun hle=>?_)
  rw [zb]
  refine Cs (P:=fun o=>o= .inr false∨(o= .inl (i:Int)∧∀e∈v.aw[i].aH,fb e.ba)) (Cx (fun s:Int=>∃k:Nat,s=k∧k<=v.aw[i].aH.length∧∀e∈v.aw[i].aH.take k,fb e.ba) (fun s=>((v.aw[i].aH.length:Int)-s).toNat) ?_ ⟨0,rfl,AL _,sm⟩) (fun o l=>?_)
  ·rintro s ⟨k,rfl,t,m⟩
   unfold gc
   refine Cy (fun j=>?_) (fun g=>?_)
   ·have hk:k<v.aw[i].aH.length:=by omega
    rw [mH rfl hi,zb,mH rfl hk,zb,w64 om om]
    refine Cs (smallR _ (n _ (Aa hk))) (fun b c=>?_)
    refine DR (fun _=>DF (.inl rfl)) (fun f=>DA ⟨k+1,sm,om,fun x a=>?_⟩ om)
    rw [mY hk]at a
    rcases List.mem_append.1 a with a|a
    ·exact m x a
    ·rw [List.mem_singleton.1 a];exact c f
   ·have:k=v.aw[i].aH.length:=by omega
    subst this
    exact DF (.inr ⟨rfl,by rw [lk]at m;exact m⟩)
  ·rcases l with rfl|⟨rfl,p⟩
   ·exact DF (.inl rfl)
   ·dsimp only
    rw [w64 om om]
    refine DA ⟨i+1,sm,om,fun x a=>?_⟩ om
    rw [mY hi]at a
    rcases List.mem_append.1 a with a|a
    ·exact i2 x a
    ·rw [List.mem_singleton.1 a];exact⟨om,p⟩
 ·rcases l with rfl|⟨rfl,q⟩
  ·exact DD sm
  ·refine DD fun c=>⟨⟨?_,q⟩,h.src⟩
   have:(v.aw.length:Int)<=10:=by simpa using c
   omega
noncomputable def ψ (v:ah) (p:Pick):al:=(atR v p.az p.br).1
noncomputable def φ (s:ag) (v:ah) (p:Pick):aC:=((dP s v p).getD (⟨⟨0,0,0⟩,0,0,0⟩,⟨0,0,⟨0,0⟩,⟨0,0,0⟩,⟨[]⟩⟩,false)).1
noncomputable def U (s:ag) (v:ah) (p:Pick):Bool:=((dP s v p).getD (⟨⟨0,0,0⟩,0,0,0⟩,⟨0,0,⟨0,0⟩,⟨0,0,0⟩,⟨[]⟩⟩,false)).2.2
theorem used_U{s:ag}(m:SetP s)(n:bZ s=some 0){v:ah}(k:IA v){p:Pick}(l:SLen p):∃(c:al)(f:aC),dP s v p=some (φ s v p,c,U s v p)∧gD s v p=some (f,U s v p)∧(U s v p=true->c=ψ v p∧(φ s v p).aS=(ψ v p).aI):=by
 obtain⟨ok,f,g,c,e,e2,i⟩:=used_eq m n k l
 have j:U s v p=ok:=by unfold U;rw [e];rfl
 have o:φ s v p=f:=by unfold φ;rw [e];rfl
 rw [j,o]
 refine⟨c,g,e,e2,fun h=>?_⟩
 obtain⟨a,b, -⟩:=i h
 exact⟨a,by rw [b,a];rfl⟩
theorem sorts_eq{l:List Pick}(a:l.length<=1000):∃r,ie l=some r∧iZ l=some r∧r.length<=l.length∧∀x∈r,x∈l:=by
 obtain⟨r,i,j,c,k⟩:=Sort_eq a
 obtain⟨q,b,f,g⟩:=ref_Sort_eq a
 have:q=r:=lS f j fun x=>(g x).trans (c x).symm
 rw [this]at b
 exact⟨r,i,b,k,fun x e=>(c x).1 e⟩
theorem gather_eq{s:ag}(k:SetP s)(m:bZ s=some 0){v:ah}(f:IA v){x:List Pick}(o:∀p∈x,SLen p)(r:x.length<=1000):
  mF (fr x s v) ((0:Int),[],[],[])=some (x.filter (U s v),(x.filter (U s v)).map (φ s v),(x.filter (U s v)).map (ψ v)):=by
 refine Ct ?_
 refine Cx (fun st=>∃i:Nat,st=((i:Int),(x.take i).filter (U s v),((x.take i).filter (U s v)).map (φ s v),((x.take i).filter (U s v)).map (ψ v))∧i<=x.length) (fun st=>((x.length:Int)-st.1).toNat) ?_ ⟨0,rfl,AL _⟩
 rintro st ⟨i,rfl,i1⟩
 unfold fr
 dsimp only
 refine Cy (fun j=>?_) (fun g=>DF (by rw [show i=x.length by omega,lk]))
 have hi:i<x.length:=by omega
 obtain⟨q,t,b, -,c⟩:=used_U k m f (o _ (Aa hi))
 have hf:((x.take i).filter (U s v)).length<=1000:=AO (DW _ _) so
 rw [mH rfl hi,zb,b,zb,w64 (n:=(i:Int)+1) om om]
 dsimp only
 cases a:U s v x[i]with
 |true=>
  obtain⟨rfl, -⟩:=c a
  have a1:∀{α:Type}(l:List α)(y:α)(n:Nat),l.length<=1000->n<=200->nK l [y] n=some (l++[y]):=fun l y n h1 e=>by
   unfold nK
   rw [if_pos]
   have:=DP (show l.length+ [y].length<=1001 by simp;omega) e
   omega
  rw [if_pos rfl,a1 _ _ _ hf (by decide),zb,a1 _ _ _ (by rw [BY];exact hf) (by decide),zb,a1 _ _ _ (by rw [BY];exact hf) (by decide),zb]
  refine DA ⟨i+1,?_,om⟩ za
  rw [mY hi,DU]
  simp [a]
 |false=>
  rw [if_neg sm]
  refine DA ⟨i+1,?_,om⟩ za
  rw [mY hi,DU]
  simp [a]
theorem picks_eq{s:ag}(f:SetP s)(g:bZ s=some 0){v:ah}(b:IA v){x:List Pick}(j:∀p∈x,SLen p)(l:x.length<=1000):
  mF (iu x s v) ((0:Int),[])=some (x.filter (U s v)):=by
 refine Ct ?_
 refine Cx (fun st=>∃i:Nat,st=((i:Int),(x.take i).filter (U s v))∧i<=x.length) (fun st=>((x.length:Int)-st.1).toNat) ?_ ⟨0,rfl,AL _⟩
 rintro st ⟨i,rfl,i1⟩
 unfold iu
 dsimp only
 refine Cy (fun e=>?_) (fun c=>DF (by rw [show i=x.length by omega,lk]))
 have hi:i<x.length:=by omega
 obtain⟨k,m, -,e2, -⟩:=used_U f g b (j _ (Aa hi))
 have hf:((x.take i).filter (U s v)).length<=1000:=AO (DW _ _) so
 rw [mH rfl hi,zb,e2,zb,w64 (n:=(i:Int)+1) om om]
 dsimp only
 cases a:U s v x[i]with
 |true=>
  rw [if_pos rfl]
  have a1:nK ((x.take i).filter (U s v)) [x[i]] 104=some ((x.take i).filter (U s v)++[x[i]]):=by
   unfold nK
   rw [if_pos]
   have:=DP (show((x.take i).filter (U s v)).length+ [x[i]].length<=1001 by simp only [AW,AX];omega) (AB 104)
   omega
  rw [a1,zb]
  refine DA ⟨i+1,?_,om⟩ za
  rw [mY hi,DU]
  simp [a]
 |false=>
  rw [if_neg sm]
  refine DA ⟨i+1,?_,om⟩ za
  rw [mY hi,DU]
  simp [a]
theorem est_loops(s:ag){v:ah}(j:IA v)(b:aq){L:List Pick}(t:L.length<=1000)(g:∀p∈L,(φ s v p).aS=(ψ v p).aI):∀d i:Nat,i+d=L.length->∀out:List av,out.length<=i->
  ∃r,mF (cx ⟨L,L.map (φ s v),L.map (ψ v)⟩ b s) ((i:Int),out)=some r∧mF (da L v b s) ((i:Int),out)=some r∧r.length<=L.length
 |0,i,hi,out,u=>by
  refine⟨out,mG ?_,mG ?_,om⟩
  ·unfold cx;dsimp only;rw [if_neg so]
  ·unfold da;dsimp only;rw [if_neg so]
 |d+1,i,hi,out,u=>by
  have c:i<L.length:=by omega
  have z:=g _ (Aa c)
  obtain⟨n,n1,B,I,J⟩:=near_eq b (ψ v L[i]).aI
  obtain⟨f,f1,f2,f3,f4⟩:=far_eq b (ψ v L[i]).aI
  obtain⟨x,y,F,H,G⟩:=station_eq s.bi (r:=(ψ v L[i]).ba) (atR_len j _ _) L[i].aN (a:=n) (b:=f) f4
  have e:nK out [x.1] 16=some (out++[x.1]):=by unfold nK;rw [if_pos (by simp only [AW,AX];omega)]
  have m:cx ⟨L,L.map (φ s v),L.map (ψ v)⟩ b s ((i:Int),out)=some (.next (((i+1:Nat):Int),if x.2=0 then out++[x.1]else out)):=by
   unfold cx
   dsimp only
   rw [if_pos so,mH (i:=i) rfl (by simpa using c),zb,mH (i:=i) rfl (by simpa using c),zb,mH rfl c,zb,DV,DV,z,n1,zb,f1,zb,F,zb,w64 (n:=(i:Int)+1) om om,e]
   by_cases h:x.2=0
   ·rw [if_pos (by simp [h]),if_pos h];rfl
   ·rw [if_neg (by simp [h]),if_neg h];rfl
  have o:da L v b s ((i:Int),out)=some (.next (((i+1:Nat):Int),if x.2=0 then out++[x.1]else out)):=by
   unfold da
   dsimp only
   rw [if_pos so,mH rfl c,zb,refAt_any j,zb]
   show((gZ b (ψ v L[i]).aI).bind fun k=>(iM b (ψ v L[i]).aI).bind fun l=>(fI s.bi (ψ v L[i]).ba L[i].aN k l).bind _)=_
   rw [B,zb,f2,zb,H,zb,w64 (n:=(i:Int)+1) om om]
   rcases G with⟨h,rfl⟩|⟨h,q⟩
   ·rw [if_pos (by simp [h]),if_pos h,e];rfl
   ·rw [if_neg (by simp [q]),if_neg h];rfl
  obtain⟨r,C,D,E⟩:=est_loops s j b t g d (i+1) om (if x.2=0 then out++[x.1]else out) (by split<;>(try simp)<;>omega)
  exact⟨r,by rw [mK m,C],by rw [mK o,D],E⟩
def LS(l:List Pick):Prop:=l.length<=20∧∀p∈l,SLen p
theorem Estimates_eq(s:ag){v:ah}(a:IA v){l:List Pick}(e:LS l)(b:aq):∃r,eB s v l b=some r∧fS s v l b=some r∧r.1.length<=1000:=by
 unfold eB fS iw
 rcases set_two s with⟨c,e2,g⟩|⟨c,e2⟩
 rotate_left
 ·rw [c,e2];exact⟨_,rfl,rfl,sm⟩
 rw [c,e2,val_eq a,l8 a]
 simp only [zb,bne_self_eq_false,Ac,if_false]
 cases D:Iv.vI v.aw with
 |false=>exact⟨_,rfl,rfl,sm⟩
 |true=>
  simp only [DL,Ac,if_false]
  obtain⟨x,y,z,G,B⟩:=sorts_eq (l:=l) (by have:=e.1;omega)
  have i:∀p∈x,SLen p:=fun p f=>e.2 p (B p f)
  have u:x.length<=20:=by have:=e.1;omega
  unfold ld
  rw [y,z]
  simp only [zb]
  rw [gather_eq g e2 a i om,picks_eq g e2 a i om,box_at,mu]
  simp only [zb,bne_self_eq_false,Ac,if_false]
  by_cases j:BoxP b
  ·rw [decide_eq_true j]
   simp only [DL,Ac,if_false]
   have t:=DW (U s v) x
   obtain ⟨r, k, m, F⟩ := est_loops s a b (L := x.filter (U s v)) om (fun p f => by
    obtain⟨h1,q⟩:=List.mem_filter.1 f
    obtain⟨C,E, -, -,o⟩:=used_U g e2 a (i p h1)
    exact(o q).2) (x.filter (U s v)).length 0 om [] sm
   have n:((0:Nat):Int)=0:=rfl
   rw [n]at k m
   unfold ga
   rw [k,m]
   exact⟨(r,0),rfl,rfl,za⟩
  ·rw [decide_eq_false j]
   exact⟨_,rfl,rfl,sm⟩
theorem bent_ok(b:aq)(d:Src)(c:bt d):Ok (kI b d) (fun r=>bt r.2):=by
 unfold kI
 refine Cs (cV _ d c sm sm) (fun e h1=>Cs (cK _ _ h1.2 om om) (fun f a=>?_))
 exact DB (fun _=>DD a.2.2) (fun _=>DB (fun _=>DD a.2.2) (fun _=>DB (fun _=>DD a.2.2) (fun _=>DB (fun _=>DD a.2.2) (fun _=>DB (fun _=>DD a.2.2) (fun _=>DD a.2.2)))))
theorem mf(t:ap)(h1:t.aG.length<=1000)(i:t.aB.length<=1000)(d:Src)(e:bt d):Ok (fw t d) (fun r=>bt r.2):=by
 unfold fw
 refine Cs (Ok.app so) (fun x f=>Cs (Ok.app so) (fun y g=>?_))
 simp only [List.nil_append]at f g
 subst f g
 refine DB (fun _=>DD e) (fun n1=>DB (fun _=>DD e) (fun j=>Cs (cK _ _ e om om) (fun z b=>?_)))
 refine DB (fun _=>Cs (cV _ _ b.2.2 sm sm) (fun a c=>DD c.2)) (fun _=>?_)
 refine DB (fun _=>Cs (cK _ _ b.2.2 om om) (fun k hk=>Cs (cV _ _ hk.2.2 sm sm) (fun a c=>Cs (Ok.tT om om) (fun _ _=>Cs (Ok.set om om) (fun _ _=>DD c.2))))) (fun _=>?_)
 refine DB (fun _=>Cs (cK _ _ b.2.2 om om) (fun k hk=>Cs (cV _ _ hk.2.2 sm sm) (fun a c=>Cs (Ok.tT om om) (fun _ _=>Cs (Ok.set om om) (fun _ _=>DD c.2))))) (fun _=>?_)
 refine DB (fun _=>?_) (fun _=>DB (fun _=>?_) (fun _=>?_))
 ·rw [w64 om om]
  exact Cs (DQ om om om) (fun _ _=>DD b.2.2)
 ·exact Cs (DQ om om om) (fun _ _=>DD b.2.2)
 ·exact Cs (DQ om om om) (fun _ _=>Cs (DQ om om om) (fun _ _=>DD b.2.2))
theorem bentSettings_ok(a:ag)(h1:a.ae.bj.aG.length<=1000)(e:a.ae.bj.aB.length<=1000)(f:a.bi.aV.aG.length<=1000)(g:a.bi.aV.aB.length<=1000)(d:Src)(i:bt d):Ok (fc a d) (fun r=>bt r.2):=by
 unfold fc
 refine Cs (cK _ _ i om om) (fun x c=>?_)
 refine DB (fun _=>Cs (bent_ok _ _ c.2.2) (fun y b=>DD b)) (fun _=>?_)
 refine DB (fun _=>Cs (mf _ h1 e _ c.2.2) (fun y b=>DD b)) (fun _=>?_)
 refine DB (fun _=>Cs (cV _ _ c.2.2 sm sm) (fun y b=>DD b.2)) (fun _=>?_)
 refine DB (fun _=>Cs (cV _ _ c.2.2 sm sm) (fun y b=>DD b.2)) (fun _=>?_)
 refine DB (fun _=>Cs (mf _ f g _ c.2.2) (fun y b=>DD b)) (fun _=>?_)
 exact Cs (cV _ _ c.2.2 sm sm) (fun y b=>DD b.2)
theorem l67_ok(r:List av×Int)(g:r.1.length<=1000)(s1 s2 a b:Int):mF (df r r s1 s2 a b) (0:Int)=some (.inl (s1,s2,a,b)):=by
 refine Ct ?_
 refine Ok.upto r.1.length om (fun _=>True) trivial (fun i c h1 _=>?_)
 unfold df
 refine Cy (fun e=>?_) (fun _=>DF rfl)
 obtain⟨x,f, -⟩:=Cu (l:=r.1) c om
 rw [f,zb,zb,if_neg sm,w64 om om]
 exact DA ⟨⟨om,om⟩,trivial⟩ om
theorem l71_ok(a3:aq)(c:ag×Src)(e:aq×Src)(s:ag){v:ah}(f:IA v){l:List Pick}(g:LS l)(s1 s2 a:Int):
  mF (dg a3 c e s v l) (s1,s2,a,(0:Int))=some (.inl (s1,s2,a)):=by
 refine Ct ?_
 refine Cx (fun st=>∃i:Nat,st=(s1,s2,a,(i:Int))∧i<=3) (fun st=>(3-st.2.2.2).toNat) ?_ ⟨0,rfl,om⟩
 rintro st ⟨i,rfl,i1⟩
 unfold dg
 dsimp only
 refine Cy (fun j=>?_) (fun _=>DF rfl)
 refine Cs (Cu om so) (fun b _=>?_)
 obtain⟨r,k,m,n⟩:=Estimates_eq s f g b
 rw [k,m]
 simp only [zb,bne_self_eq_false,Ac,if_false]
 rw [l67_ok r n]
 simp only [zb]
 rw [w64 om om]
 exact DA ⟨i+1,rfl,om⟩ za
theorem l75_ok(c:List Pick×Src)(a2:List Pick)(b:ag×Src)(a3:aq)(s:ag){v:ah}(m:IA v)(f:LS c.1)(k:LS a2)(s1 s2:Int)(d:Src)(n:bt d):
  Ok (mF (dh c a2 b a3 s v) (s1,s2,(0:Int),d.fL,d.fAt)) (fun o=>∃a:Src,bt a∧o= .inl (s1,s2,a.fL,a.fAt)):=by
 refine Cx (fun st=>∃(i:Nat)(a:Src),st=(s1,s2,(i:Int),a.fL,a.fAt)∧i<=2∧bt a) (fun st=>(2-st.2.2.1).toNat) ?_ ⟨0,d,rfl,om,n⟩
 rintro st ⟨i,a,rfl,i1,i2⟩
 unfold dh
 dsimp only
 refine Cy (fun q=>?_) (fun _=>DF ⟨a,i2,rfl⟩)
 refine Cs (Cu om so) (fun l j=>?_)
 have p:LS l:=by
  rcases List.mem_cons.1 j.1 with rfl|h
  ·exact f
  ·rw [List.mem_singleton.1 h];exact k
 refine Cs (bent_ok _ _ i2) (fun e g=>?_)
 rw [l71_ok a3 b e s m p]
 simp only [zb]
 rw [w64 om om]
 exact DA ⟨i+1,e.2,rfl,om,g⟩ za
theorem l79_ok(f:ah×Src)(a1:ah)(b:List Pick×Src)(a2:List Pick)(c:ag×Src)(a3:aq)(s:ag)(g:IA f.1)(h1:IA a1)(j:LS b.1)(l:LS a2)(s1:Int)(d:Src)(n:bt d):
  Ok (mF (di f a1 b a2 c a3 s) (s1,(0:Int),d.fL,d.fAt)) (fun o=>∃a:Src,bt a∧o= .inl (s1,a.fL,a.fAt)):=by
 refine Cx (fun st=>∃(i:Nat)(a:Src),st=(s1,(i:Int),a.fL,a.fAt)∧i<=2∧bt a) (fun st=>(2-st.2.1).toNat) ?_ ⟨0,d,rfl,om,n⟩
 rintro st ⟨i,a,rfl,i1,i2⟩
 unfold di
 dsimp only
 refine Cy (fun p=>?_) (fun _=>DF ⟨a,i2,rfl⟩)
 refine Cs (Cu om so) (fun v k=>?_)
 have m:IA v:=by
  rcases List.mem_cons.1 k.1 with rfl|h
  ·exact g
  ·rw [List.mem_singleton.1 h];exact h1
 refine Cs (l75_ok b a2 c a3 s m j l s1 i a i2) (fun o⟨e,he,q⟩=>?_)
 subst q
 dsimp only
 rw [w64 om om]
 exact DA ⟨i+1,e,rfl,om,he⟩ za
theorem l83_ok(f:ag×Src)(a0:ag)(k:ag×Src)(a:ah×Src)(a1:ah)(b:List Pick×Src)(a2:List Pick)(a3:aq)(g:IA a.1)(h1:IA a1)(j:LS b.1)(l:LS a2)(d:Src)(m:bt d):
  mF (dj f a0 k a a1 b a2 a3) ((0:Int),d.fL,d.fAt)=some (.inl ()):=by
 refine Ct ?_
 refine Cx (fun st=>∃(i:Nat)(c:Src),st=((i:Int),c.fL,c.fAt)∧i<=3∧bt c) (fun st=>(3-st.1).toNat) ?_ ⟨0,d,rfl,om,m⟩
 rintro st ⟨i,c,rfl,i1,i2⟩
 unfold dj
 dsimp only
 refine Cy (fun n=>?_) (fun _=>DF rfl)
 refine Cs (Cu om so) (fun s _=>?_)
 refine Cs (l79_ok a a1 b a2 f a3 s g h1 j l i c i2) (fun o⟨e,he,p⟩=>?_)
 subst p
 dsimp only
 rw [w64 om om]
 exact DA ⟨i+1,e,rfl,om,he⟩ za
theorem smallS(s:ag):Ok (ey s) (fun _=>True):=by
 have a:∀t,Ok (eE t) (fun _=>True):=fun t=>by
  unfold eE;exact Cy (fun _=>DD trivial) (fun _=>DD trivial)
 have b:Ok (jj s.ae.aU) (fun _=>True):=by
  unfold jj
  exact Cy (fun _=>DD trivial) (fun _=>Cy (fun _=>DD trivial) (fun _=>Cy (fun _=>DD trivial) (fun _=>Cy (fun _=>DD trivial) (fun _=>Cy (fun _=>DD trivial) (fun _=>Cy (fun _=>DD trivial) (fun _=>Cy (fun _=>DD trivial) (fun _=>Cy (fun _=>DD trivial) (fun _=>Cy (fun _=>DD trivial) (fun _=>Cy (fun _=>DD trivial) (fun _=>Cy (fun _=>DD trivial) (fun _=>Cy (fun _=>DD trivial) (fun _=>DD trivial))))))))))))
 unfold ey
 exact Cs (a _) (fun _ _=>Ok.iteB (fun _=>Cs (a _) (fun _ _=>Ok.iteB (fun _=>Cs b (fun _ _=>DD trivial)) (fun _=>DD trivial))) (fun _=>DD trivial))
theorem kB(a0:ag)(a1:ah)(a2:List Pick)(a3:aq)(l:List Int)(h1:ArgI a1)(s:∀p∈a2,SLen p):cU a0 a1 a2 a3 l=some true:=by
 refine Ct ?_
 unfold cU
 have v:ln=some true:=rfl
 rw [v]
 refine Cs (smallS a0) (fun b _=>DR (fun _=>DD rfl) (fun _=>?_))
 refine Cs (smallI a1 h1) (fun b u=>DR (fun _=>DD rfl) (fun q=>?_))
 refine Cy (fun _=>DD rfl) (fun hlen=>?_)
 refine Cs (new_ok l) (fun y t=>?_)
 refine Cs (settings_ok (k:=6) om _ t) (fun f a=>?_)
 refine Cs ((sites_ok _ a.2).both (sitesV (n:=6) _ a.2)) (fun i c=>?_)
 refine Cs (picks_ok f.1 a.1.1 i.1 c.1.1 8 om _ c.1.2) (fun j e=>?_)
 have r:=a.1.1.2
 refine Cs (bentSettings_ok f.1 (by have:=r.len;omega) (by have:=r.len;have:=r.same;omega) (by have:=a.1.2.1;omega) (by have:=a.1.2.2;omega) _ e.2) (fun m o=>?_)
 have g:LS j.1:=⟨by have:=e.1.1;omega,fun p x=>sid_len (e.1.2 p x).1⟩
 rw [l83_ok f a0 m i a1 j a2 a3 c.2.1.1.ia (u q) g ⟨om,s⟩ m.2 o]
 exact DD rfl
end Go.Dw.Es
