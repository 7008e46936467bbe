
import Derived.Test.YtikangmionpjfaaGreatSsLawRA
import Derived.Test.YtikangmionpjfaaGreatDwSortIP
set_option linter.unusedVariables false
set_option linter.unusedSimpArgs false
open Classical renaming byContradiction->FQ
open Nat renaming eq_zero_or_pos->Dv, le_refl->B6, le_trans->CJ, min_eq_left->Ck, mod_eq_of_lt->Em, mul_le_mul->FR, pow_le_pow_right->En, zero_add->CF, zero_le->CG
open Option renaming bind_fun_some->Ep
open Go.Dw.Ok renaming app->Er, bind->Es, cut->FT, eq->Et, get->Eu, iteB->Ew, loop->Ez, nx->FB, pk->FC, q7->FD, quo->FE, ret->FF, set->FG, st->FH, tB->FI, uW->FU, upto->FJ
open Int renaming le_ediv_iff_mul_le->ER, le_of_lt->ES, le_total->EU, mul_le_mul->EW, mul_nonneg->EX, neg_tdiv->FV, sub_self->FW, tdiv_eq_ediv_of_nonneg->E6, tmod_eq_emod_of_nonneg->FX, zero_add->Ea
open Option.some renaming inj->DS
open Bool renaming and_eq_true->C4, false_eq_true->Cb, not_false->FY, not_true->FN
open Go.IntKind renaming wrap->Dt
open List renaming append_assoc->B8, append_nil->Cy, drop_append_of_le_length->FZ, drop_eq_getElem_cons->Eb, drop_eq_nil_of_le->Ec, drop_of_length_le->F0, drop_zero->ED, filter_append->F1, foldl_cons->F2, getD_eq_getElem?_getD->D7, getElem?_cons_succ->CO, getElem?_set_ne->CR, getElem?_set_self->CS, getElem_drop->F3, getElem_map->F4, getElem_mem->C9, getElem_of_mem->Eg, getElem_take->F5, length->Eh, length_append->DA, length_cons->CT, length_drop->Co, length_filter_le->F6, length_map->DT, length_nil->CU, length_set->Dc, length_take->Cp, map_append->Dl, mem_append->Dd, mem_cons->Du, mem_singleton->De, perm_append_comm->F7, perm_cons->F8, set_append_right->F9, set_set_perm->Fa, take_append_drop->Fb, take_append_of_le_length->Fc, take_length->Ek, take_of_length_le->Fe

set_option maxRecDepth 100000
set_option maxHeartbeats 4000000
namespace Go.Dw.Ss
open Go.Dw Go.Proofs
theorem len_uniq{n a b:Int}(f:Len n a)(g:Len n b):a=b:=by
  obtain⟨a,rfl,a1, -,a2,a3⟩:=f
  obtain⟨b,rfl,b1, -,b2,c⟩:=g
  have k:∀x y:Nat,1<=x->(2:Int) ^ (x-1)<=n->n<2 ^ y->x<=y:=fun x y l h1 j=>by
    apply FQ
    intro h
    have:(2:Int) ^ y<=2 ^ (x-1):=by
      have:=En (show 0<2 by decide) (show y<=x-1 by omega)
      exact_mod_cast this
    omega
  have:=k a b a1 a2 c
  have:=k b a b1 b2 a3
  omega
theorem rdigits_ok{n:Int}(h1:1<=n)(h:n<=9223372036854775807):Ok (iW n) (Len n):=by
  unfold iW
  rw [Ep]
  refine Ez (fun s:Int×Int=>∃k:Nat,s=(n / 2 ^ k,(k:Int))∧k<=63∧(1<=k->(2:Int) ^ (k-1)<=n)) (fun s=>s.1.toNat) ?_ ⟨0,sm,za,za⟩
  rintro s ⟨k,rfl,p,j⟩
  have hp:(0:Int)<2 ^ k:=Int.pow_pos (by decide)
  unfold lA
  dsimp only
  have c:0<=n / 2 ^ k:=Int.ediv_nonneg za (ES hp)
  refine FC (fun g=>?_) (fun hle=>FH ?_)
  · have hk:k<=62:=by
      apply FQ
      intro hc
      obtain rfl:k=63:=by omega
      have f:(2:Int) ^ 63=9223372036854775808:=by decide
      have:n / 2 ^ 63=0:=Int.ediv_eq_zero_of_lt za za
      omega
    rw [shr1 c,w64 (n:=(k:Int)+1) za za]
    have e:n / 2 ^ k / 2=n / 2 ^ (k+1):=by rw [Int.pow_succ,Int.ediv_ediv_of_nonneg (ES hp)]
    refine FB ⟨k+1,by rw [e];rfl,za,fun _=>?_⟩ zb
    have:1*2 ^ k<=n:=(ER hp).1 za
    simp only [Nat.add_sub_cancel];omega
  · have l:n / 2 ^ k=0:=by omega
    have a:n<2 ^ k:=by
      apply FQ
      intro hc
      have:1<=n / 2 ^ k:=(ER hp).2 za
      omega
    have hk:1<=k:=by
      rcases Dv k with rfl|h
      · simp at a;omega
      · exact h
    exact⟨k,rfl,hk,za,j hk,a⟩
theorem digits_eq{n:Int}(h1:1<=n)(h:n<=9223372036854775807):∃l:Nat,mK n=some (l:Int)∧iW n=some (l:Int)∧1<=l∧l<=63∧(2:Int) ^ (l-1)<=n∧n<2 ^ l:=by
  obtain⟨a,a1,a2⟩:=bits_at h1 za
  obtain⟨b,b1,b2⟩:=rdigits_ok h1 h
  rw [len_uniq b2 a2]at b1
  obtain⟨l,rfl,c,j,f,g⟩:=a2
  refine⟨l,a1,b1,c,?_,f,g⟩
  apply FQ
  intro hc
  obtain rfl:l=64:=by omega
  have:(2:Int) ^ (64-1)=9223372036854775808:=by decide
  omega
theorem dig17{c m d:Int}(hc: -1<=c∧c<=63)(a:0<=d∧d<=255):Ok (df c m d) (fun r=> -256<=r∧r<=16400):=by
  unfold df
  rw [w64 (n:=256*c) za za,w64 za za]
  exact FF ⟨za,za⟩
theorem dig20{c m d:Int}(hc: -1<=c∧c<=63)(a:0<=d∧d<=127):Ok (cH c m d) (fun r=> -256<=r∧r<=16400):=by
  unfold cH
  rw [w64 (n:=d*2) za za,w64 (n:=d*2+1) za za]
  exact FC (fun _=>Es (FE za) (fun _ _=>dig17 hc za)) (fun _=>dig17 hc za)
theorem dig23{c m d:Int}(hc: -1<=c∧c<=63)(a:0<=d∧d<=63):Ok (cJ c m d) (fun r=> -256<=r∧r<=16400):=by
  unfold cJ
  rw [w64 (n:=d*2) za za,w64 (n:=d*2+1) za za]
  exact FC (fun _=>Es (FE za) (fun _ _=>dig20 hc za)) (fun _=>dig20 hc za)
theorem dig26{c m d:Int}(hc: -1<=c∧c<=63)(a:0<=d∧d<=31):Ok (cK c m d) (fun r=> -256<=r∧r<=16400):=by
  unfold cK
  rw [w64 (n:=d*2) za za,w64 (n:=d*2+1) za za]
  exact FC (fun _=>Es (FE za) (fun _ _=>dig23 hc za)) (fun _=>dig23 hc za)
theorem dig29{c m d:Int}(hc: -1<=c∧c<=63)(a:0<=d∧d<=15):Ok (cL c m d) (fun r=> -256<=r∧r<=16400):=by
  unfold cL
  rw [w64 (n:=d*2) za za,w64 (n:=d*2+1) za za]
  exact FC (fun _=>Es (FE za) (fun _ _=>dig26 hc za)) (fun _=>dig26 hc za)
theorem dig32{c m d:Int}(hc: -1<=c∧c<=63)(a:0<=d∧d<=7):Ok (cM c m d) (fun r=> -256<=r∧r<=16400):=by
  unfold cM
  rw [w64 (n:=d*2) za za,w64 (n:=d*2+1) za za]
  exact FC (fun _=>Es (FE za) (fun _ _=>dig29 hc za)) (fun _=>dig29 hc za)
theorem dig35{c m d:Int}(hc: -1<=c∧c<=63)(a:0<=d∧d<=3):Ok (cN c m d) (fun r=> -256<=r∧r<=16400):=by
  unfold cN
  rw [w64 (n:=d*2) za za,w64 (n:=d*2+1) za za]
  exact FC (fun _=>Es (FE za) (fun _ _=>dig32 hc za)) (fun _=>dig32 hc za)
theorem dig38{c m d:Int}(hc: -1<=c∧c<=63)(a:0<=d∧d<=1):Ok (cO c m d) (fun r=> -256<=r∧r<=16400):=by
  unfold cO
  rw [w64 (n:=d*2) za za,w64 (n:=d*2+1) za za]
  exact FC (fun _=>Es (FE za) (fun _ _=>dig35 hc za)) (fun _=>dig35 hc za)
theorem digits_ok{c m:Int}(hc: -1<=c∧c<=63):Ok (dj c m) (fun r=> -256<=r∧r<=16400):=by
  unfold dj
  exact FC (fun _=>Es (FE za) (fun _ _=>dig38 hc za)) (fun _=>dig38 hc za)
theorem nD_in{m d:Int}{k:Int}(hk:0<=k∧k<=1000)(a:0<=d∧d<=k):0<=nD m d∧nD m d<=2*k+1:=by
  unfold nD
  rw [w64 (n:=d*2) za za,w64 (n:=d*2+1) za za]
  split<;>omega
theorem digD(m:Int):Ok (dE cU (m,(0:Int),(0:Int))) (fun d=>0<=d∧d<=255):=by
  have h:∀(i:Nat),i<8->∀m d:Int,dE cU (m,d,(i:Int))=dE cU (nM m,nD m d,((i+1:Nat):Int)):=fun i hi m d=>pe (lstep hi)
  have j:((0:Nat):Int)=0:=rfl
  have a:=h 0 (by decide) m 0
  rw [j]at a
  rw [a,h 1 (by decide),h 2 (by decide),h 3 (by decide),h 4 (by decide),h 5 (by decide),h 6 (by decide),h 7 (by decide),o0 (o:=nD _ _) (by unfold cU;rfl)]
  have a1:=nD_in (m:=m) (d:=0) (k:=0) za za
  have a2:=nD_in (m:=nM m) (k:=1) za a1
  have a3:=nD_in (m:=nM (nM m)) (k:=3) za a2
  have a4:=nD_in (m:=nM (nM (nM m))) (k:=7) za a3
  have a5:=nD_in (m:=nM (nM (nM (nM m)))) (k:=15) za a4
  have c:=nD_in (m:=nM (nM (nM (nM (nM m))))) (k:=31) za a5
  have f:=nD_in (m:=nM (nM (nM (nM (nM (nM m)))))) (k:=63) za c
  have g:=nD_in (m:=nM (nM (nM (nM (nM (nM (nM m))))))) (k:=127) za f
  exact⟨_,rfl,g⟩
theorem digits_D(m:Int):∃d:Int,(0<=d∧d<=255)∧∀c:Int, -1<=c∧c<=2000->dj c m=some (256*c+d):=by
  obtain⟨r,a, -⟩:=digits_ok (c:=0) (m:=m) za
  rw [<-nR]at a
  unfold gn at a
  cases e:dE cU (m,(0:Int),(0:Int))with
  |none=>rw [e]at a;cases a
  |some d=>
    have f:0<=d∧d<=255:=by
      have:=digD m
      rw [e]at this
      obtain⟨x,g,h⟩:=this
      rw [DS g];exact h
    refine⟨d,f,fun c hc=>?_⟩
    rw [<-nR]
    unfold gn
    rw [e,zc,w64 (n:=256*c) za za,w64 za za]
theorem log_eq(n:Int)(h:n<=9223372036854775807):∃r,eK n=some r∧lR n=some r∧ -256<=r.1∧r.1<=16400∧(1<=n->r.2=0):=by
  unfold eK lR
  by_cases h1:n<1
  · simp only [h1,decide_true,if_true];exact⟨_,rfl,rfl,sm,sm,fun h=>za⟩
  simp only [h1,decide_false,Cb,if_false]
  obtain⟨l,f,e2,g,j,k,p⟩:=digits_eq (n:=n) za h
  have hw:Dt .u64 n=n:=IntWalk.u64_in _ za
  rw [hw,f,e2,zc,zc,w64 (n:=(l:Int)-1) za za]
  by_cases c:(l:Int)-1<=30
  · simp only [c,decide_true,if_true]
    rw [w64 (n:=30-((l:Int)-1)) za za,IntWalk.u64_in (30-((l:Int)-1)) za]
    have e:vB .i64 n (30-((l:Int)-1))=some (uq .i64 n (30-((l:Int)-1))):=by unfold vB;rw [if_neg za]
    obtain⟨d,⟨d0,d1⟩,a⟩:=digits_D (uq .i64 n (30-((l:Int)-1)))
    rw [e,zc,zc,nR,a _ za,zc]
    exact⟨_,rfl,rfl,zb,zb,fun _=>rfl⟩
  · simp only [c,decide_false,Cb,if_false]
    rw [w64 (n:=(l:Int)-1-30) za za,IntWalk.u64_in ((l:Int)-1-30) za]
    have e:yG .i64 n ((l:Int)-1-30)=some (pJ .i64 n ((l:Int)-1-30)):=by unfold yG;rw [if_neg za]
    obtain⟨d,⟨d0,d1⟩,a⟩:=digits_D (pJ .i64 n ((l:Int)-1-30))
    rw [e,zc,zc,nR,a _ za,zc]
    exact⟨_,rfl,rfl,zb,zb,fun _=>rfl⟩
theorem or_gen(m b:Nat)(c:b<2 ^ 30)(h:2 ^ 30*m+b<4611686018427387904):orI .i64 (uq .i64 (m:Int) 30) (b:Int)=1073741824*m+b:=by
  have f:=Nat.two_pow_add_eq_or_of_lt (i:=30) (b:=b) c m
  have hs:uq .i64 (m:Int) 30=((2 ^ 30*m:Nat):Int):=by
    unfold uq
    show Dt .i64 ((m:Int)*1073741824)=_
    rw [w64 za za];omega
  rw [hs]
  generalize g:2 ^ 30*m=A at*
  unfold orI
  show Dt .i64 (((BitVec.ofInt 64 _ ||| BitVec.ofInt 64 _).toNat:Nat):Int)=_
  rw [BitVec.ofInt_natCast,BitVec.ofInt_natCast,BitVec.toNat_or,BitVec.toNat_ofNat,BitVec.toNat_ofNat,Em (a:=A) za,Em (a:=b) za,show(A ||| b)=A+b by omega]
  rw [w64 za za];omega
theorem logNat_eq{l:List Int}(B:vN l=true)(E:l≠ []):∃r,dV l=some r∧kq l=some r∧ -1000<=r.1∧r.1<=600000∧r.2=0:=by
  obtain⟨v1,v2,v3⟩:=mi.1 B
  have hp:0<l.length:=List.length_pos_iff.2 E
  have g:=v3.get v2 hp
  unfold dV kq
  rw [nv_eq za,nP za,B]
  simp only [zc,FN,Cb,if_false]
  rw [w64 (n:=(l.length:Int)-1) za za]
  have g0:¬(l.length:Int)-1<0:=by omega
  have g1:((l.length:Int)==0)=false:=by simp;omega
  simp only [g0,g1,decide_false,Cb,if_false]
  rw [fB za]at g
  have d1:=v2.get (k:=l.length-1) za
  by_cases h1:l.length=1
  · have g2:((l.length:Int)-1==0)=true:=by simp;omega
    have g3:(l.length:Int)<=2:=by omega
    simp only [g2,g3,decide_true,if_true]
    obtain⟨r,a,u,I,J,x⟩:=log_eq l[l.length-1] za
    have p:cz l ((0:Int),(l.length:Int)-1)=some (.next (l[l.length-1], -1)):=by
      unfold cz
      dsimp only
      rw [if_pos so,j0 (i:=l.length-1) za za,zc,w64 za za]
      have:orI .i64 (uq .i64 (0:Int) 30) l[l.length-1]=l[l.length-1]:=by
        obtain⟨b,f⟩:∃b:Nat,l[l.length-1]=b:=⟨l[l.length-1].toNat,za⟩
        rw [f]
        have:=or_gen 0 b za za
        simpa using this
      rw [this]
      congr 3;omega
    have e2:cz l (l[l.length-1], -1)=some (.stop l[l.length-1]):=by
      unfold cz
      rfl
    rw [j0 (l:=l) (n:=0) (i:=l.length-1) za za,pe p,o0 e2]
    simp only [zc,a,u]
    exact⟨_,rfl,rfl,zb,zb,x za⟩
  · have g2:((l.length:Int)-1==0)=false:=by simp;omega
    simp only [g2,Cb,if_false]
    have d2:=v2.get (k:=l.length-2) za
    rw [w64 (n:=(l.length:Int)-1-1) za za,w64 (n:=7680*((l.length:Int)-1-1)) za za,j0 (n:=(l.length:Int)-1) (i:=l.length-1) za za,zc,j0 (n:=(l.length:Int)-1-1) (i:=l.length-2) za za,zc]
    have c:orI .i64 (uq .i64 l[l.length-1] 30) l[l.length-2]=1073741824*l[l.length-1]+l[l.length-2]:=by
      obtain⟨m,hm⟩:∃m:Nat,l[l.length-1]=m:=⟨l[l.length-1].toNat,za⟩
      obtain⟨b,f⟩:∃b:Nat,l[l.length-2]=b:=⟨l[l.length-2].toNat,za⟩
      rw [hm,f]
      exact or_gen m b za za
    rw [c]
    generalize y:1073741824*l[l.length-1]+l[l.length-2]=T
    obtain⟨r,a,u,I,J,x⟩:=log_eq T za
    rw [a,zc]
    by_cases K:l.length=2
    · have g3:(l.length:Int)<=2:=by omega
      simp only [g3,decide_true,if_true]
      have p:cz l ((0:Int),(l.length:Int)-1)=some (.next (l[l.length-1],0)):=by
        unfold cz
        dsimp only
        rw [if_pos so,j0 (i:=l.length-1) za za,zc,w64 za za]
        have:orI .i64 (uq .i64 (0:Int) 30) l[l.length-1]=l[l.length-1]:=by
          obtain⟨b,f⟩:∃b:Nat,l[l.length-1]=b:=⟨l[l.length-1].toNat,za⟩
          rw [f]
          have:=or_gen 0 b za za
          simpa using this
        rw [this]
        congr 3;omega
      have e2:cz l (l[l.length-1],0)=some (.next (T, -1)):=by
        unfold cz
        dsimp only
        rw [if_pos sm,j0 (i:=l.length-2) za za,zc,c,y]
        rfl
      have D:cz l (T, -1)=some (.stop T):=by
        unfold cz
        rfl
      rw [pe p,pe e2,o0 D]
      simp only [zc,u]
      rw [show(7680:Int)*((l.length:Int)-1-1)=0 by omega,Int.add_zero,w64 za za]
      exact⟨_,rfl,rfl,zb,zb,x za⟩
    · have g3:¬(l.length:Int)<=2:=by omega
      simp only [g3,decide_false,Cb,if_false]
      obtain⟨k,G,H,k3,L,N,O⟩:=digits_eq (n:=T) za za
      have z:31<=k:=by
        apply FQ
        intro hc
        have:(2:Int) ^ k<=2 ^ 30:=by
          have:=En (show 0<2 by decide) (show k<=30 by omega)
          exact_mod_cast this
        have e:(2:Int) ^ 30=1073741824:=by decide
        omega
      unfold eK at a
      have hw:Dt .u64 T=T:=IntWalk.u64_in _ za
      have t:¬T<1:=by omega
      simp only [t,decide_false,Cb,if_false]at a
      rw [hw,G,zc,w64 (n:=(k:Int)-1) za za]at a
      rw [w64 (n:=(l.length:Int)-2) za za,w64 (n:=30*((l.length:Int)-2)) za za,j0 (n:=(l.length:Int)-2) (i:=l.length-2) za za]
      simp only [zc,c,y,H]
      rw [w64 (n := (k : Int) - 31) za za, IntWalk.u64_in ((k : Int) - 31) za,
        w64 (n:=30*((l.length:Int)-2)+k) za za,w64 (n:=30*((l.length:Int)-2)+k-1) za za]
      have e:yG .i64 T ((k:Int)-31)=some (pJ .i64 T ((k:Int)-31)):=by unfold yG;rw [if_neg za]
      obtain⟨d,⟨d0,C⟩,j⟩:=digits_D (pJ .i64 T ((k:Int)-31))
      rw [e,zc,nR,j _ za,zc]
      have F:r=(256*((k:Int)-1)+d,0):=by
        by_cases hc:(k:Int)-1<=30
        · simp only [hc,decide_true,if_true]at a
          have hk:(k:Int)=31:=by omega
          have es:vB .i64 T (Dt .i64 (30-((k:Int)-1)))=some T:=by
            rw [hk,w64 za za]
            unfold vB
            rw [if_neg za]
            unfold uq
            show some (Dt .i64 (T*1))=_
            rw [Int.mul_one,w64 za za]
          have q:pJ .i64 T ((k:Int)-31)=T:=by
            rw [hk]
            show T.fdiv 1=T
            rw [Int.fdiv_one]
          rw [q]at j
          rw [es,zc,j _ za,zc]at a
          exact(DS a).symm
        · simp only [hc,decide_false,Cb,if_false]at a
          rw [w64 (n:=(k:Int)-1-30) za za,show(k:Int)-1-30=k-31 by omega,e,zc,j _ za,zc]at a
          exact(DS a).symm
      subst F
      refine⟨_,rfl,?_,by simp only;rw [w64 za za];omega,by simp only;rw [w64 za za];omega,rfl⟩
      simp only
      rw [w64 za za]
      congr 2;omega
theorem floorL_at{l:Int}(h: -1000000<=l∧l<=1000000):gG l=some (l*30103 / 256000):=by
  unfold gG kD
  rw [if_pos so,zc]
  dsimp only
  rw [if_neg so,w64 (n:=l*30103) za za]
  have f: -30103000000<=l*30103∧l*30103<=30103000000:=by omega
  generalize l*30103=n at*
  have c:qa .i64 n 256000=some (Dt .i64 (n.tdiv 256000)):=by unfold qa;rw [if_neg za]
  have e2:tX n 256000=some (n.tmod 256000):=by unfold tX;rw [if_neg za]
  rw [c,e2,zc,zc]
  rcases EU 0 n with a|a
  · rw [E6 a,FX a,if_neg so,w64 za za]
  · obtain⟨m,rfl⟩:∃m,n= -m:=⟨-n,za⟩
    rw [FV,Int.neg_tmod,E6 za,FX za,w64 (n:= -(m / 256000)) za za,w64 za za]
    by_cases hm:m%256000=0
    · rw [if_neg so];congr 1;omega
    · rw [if_pos so];congr 1;omega
theorem ceilL_at{l:Int}(h: -1000000<=l∧l<=1000000):kc l=some (-(-l*30103 / 256000)):=by
  unfold kc
  rw [w64 (n:=0-l) za za,floorL_at za,zc,w64 za za]
  congr 1
  rw [show 0-l= -l by omega];omega
theorem half_at'{n:Int}:ip n=some (n / 2):=by
  unfold ip
  show some (n.fdiv (2 ^ (min (1:Int).toNat 64)))=_
  rw [Int.fdiv_eq_ediv_of_nonneg _ (by decide)]
  rfl
end Go.Dw.Ss
set_option maxRecDepth 100000
set_option maxHeartbeats 4000000
namespace Go.Dw.Ss
open Go.Dw Go.Proofs
theorem stN_of{s:bq}(a:s.cf.length<=4000)(h:Iv.vS s=true):StN s:=by
  unfold Iv.vS at h
  by_cases c:s.ct=0
  · rw [if_pos c]at h
    simp only [C4,Iv.inB,decide_eq_true_eq,beq_iff_eq]at h
    exact⟨by unfold I64;omega,by unfold I64;omega,a,za⟩
  rw [if_neg c]at h
  by_cases h1:s.ct=1
  · rw [if_pos h1]at h
    simp only [C4,Iv.nq,Iv.inB,List.all_cons,decide_eq_true_eq,beq_iff_eq]at h
    exact⟨by unfold I64;omega,by unfold I64;omega,a,za⟩
  rw [if_neg h1]at h
  by_cases f:s.ct=2
  · rw [if_pos f]at h
    simp only [C4,Iv.inB,decide_eq_true_eq,beq_iff_eq]at h
    exact⟨by unfold I64;omega,by unfold I64;omega,a,za⟩
  rw [if_neg f]at h
  cases h
theorem Gain_eq{r:bp}(a:gq r)(n d:Int):∃x y,ld r n d=some x∧na r n d=some y∧
    ((x.2=0∧y=x∧vN x.1.bI=true∧vN x.1.bG=true∧x.1.bG≠ [])∨(x.2≠0∧(y.2≠0∨y.1.bI=[]))):=by
  unfold ld na
  rw [Iv.vP_eq a.rok,Iv.ref_vP_eq a.rok]
  simp only [zc]
  cases c:Iv.vP r with
  |false=>exact⟨_,_,rfl,rfl,.inr ⟨by decide,.inl (by decide)⟩⟩
  |true=>
    simp only [FN,Cb,if_false]
    rw [Iv.pin_eq,Iv.pin_eq,Iv.In_eq,Iv.In_eq]
    simp only [zc]
    cases h1:Iv.inB n 0 65536 with
    |false=>exact⟨_,_,rfl,rfl,.inr ⟨by decide,.inl (by decide)⟩⟩
    |true=>
      cases k:Iv.inB d 1 65536 with
      |false=>exact⟨_,_,rfl,rfl,.inr ⟨by decide,.inl (by decide)⟩⟩
      |true=>
        simp only [FN,Cb,if_false]
        unfold Iv.vP at c
        simp only [C4,decide_eq_true_eq,List.all_eq_true]at c
        have hs:∀s∈r.bD,StN s:=fun s hs=>stN_of (by have:=a.2 s hs;omega) (c.2.1 s hs)
        obtain⟨o,l,f,e2,g⟩:=gain_loop (r:=r) za hs n d r.bD.length 0 za [1] [1] (by decide) (by decide) (by decide)
        have j:((0:Nat):Int)=0:=rfl
        rw [j]at f e2
        rw [f,e2]
        simp only [zc]
        rcases o with p|q
        · obtain⟨rfl,g1,g2,g3⟩:=g
          exact⟨_,_,rfl,rfl,.inl ⟨rfl,rfl,g1,g2,g3⟩⟩
        · obtain⟨g1,rfl|⟨t,rfl,g2⟩⟩:=g
          · exact⟨_,_,rfl,rfl,.inr ⟨g1,.inr rfl⟩⟩
          · exact⟨_,_,rfl,rfl,.inr ⟨g1,.inl g2⟩⟩
theorem scale_eq(s:bC):cP s=gc s∧∃b,cP s=some b:=by
  unfold cP gc
  rcases kz s.bF with⟨a,e2, -⟩|⟨a,e2, -⟩
  · rw [a,e2]
    refine⟨rfl,?_⟩
    simp only [zc]
    repeat' split
    all_goals exact⟨_,rfl⟩
  · rw [a,e2]
    exact⟨rfl,_,rfl⟩
theorem rfloorL_at{l:Int}(h: -1000000<=l∧l<=1000000):lu l=some (l*30103 / 256000):=by
  unfold lu
  rw [if_neg so,if_neg so,w64 (n:=l*30103) za za]
  have f: -30103000000<=l*30103∧l*30103<=30103000000:=by omega
  generalize l*30103=n at*
  have c:qa .i64 n 256000=some (Dt .i64 (n.tdiv 256000)):=by unfold qa;rw [if_neg za]
  rw [c,zc]
  rcases EU 0 n with a|a
  · rw [E6 a,w64 (n:=n / 256000) za za,w64 (n:=n / 256000*256000) za za,if_neg so]
  · obtain⟨m,rfl⟩:∃m,n= -m:=⟨-n,za⟩
    rw [FV,E6 za,w64 (n:= -(m / 256000)) za za,w64 (n:= -(m / 256000)*256000) za za]
    by_cases hm:m%256000=0
    · rw [if_neg so];congr 1;omega
    · rw [if_pos so,w64 za za];congr 1;omega
theorem rceilL_at{l:Int}(h: -1000000<=l∧l<=1000000):nk l=some (-(-l*30103 / 256000)):=by
  unfold nk
  rw [w64 (n:=0-l) za za,rfloorL_at za,zc,w64 za za]
  congr 1
  rw [show 0-l= -l by omega];omega
theorem and1{n:Int}(h: -9223372036854775808<=n∧n<=9223372036854775807):andI .i64 n 1=n%2:=by
  unfold andI
  show Dt .i64 (((BitVec.ofInt 64 n &&& BitVec.ofInt 64 1).toNat:Nat):Int)=_
  rw [BitVec.toNat_and,BitVec.toNat_ofInt]
  have e:(BitVec.ofInt 64 1).toNat=1:=by decide
  rw [e,Nat.and_one_is_mod]
  rw [w64 za za]
  omega
theorem rhalf_at{n:Int}(h: -4000000000<=n∧n<=4000000000):me n=some (n / 2):=by
  unfold me
  rw [and1 za,w64 (n:=n-n%2) za za]
  unfold qa
  rw [if_neg (by decide),zc]
  have:(n-n%2).tdiv 2=n / 2:=by
    rw [show n-n%2=2*(n / 2)by omega]
    rw [Int.mul_comm,Int.mul_tdiv_cancel _ (by decide)]
  rw [this,w64 za za]
theorem lh_wrap{q lo hi:Int}(a: -700000<=q∧q<=700000)(h:0<=lo∧lo<=hi∧hi<=1099511627776):
    Dt .i64 ((q-2) / 2*30103 / 256000+lo)<=Dt .i64 (-(-(0-(0-(q+6)) / 2)*30103 / 256000)+hi):=by
  rw [w64 za za,w64 za za]
  omega
theorem station_eq(s:bC){r:bp}(N:gq r)(am:Int){a b:Int}(K:b<=13194139533312):∃x y,ib s r am a b=some x∧jp s r am a b=some y∧((x.2=0∧y=x∧x.1.bh<=x.1.av)∨(x.2≠0∧y.2≠0)):=by
  obtain⟨Q,c,O⟩:=scale_eq s
  unfold ib jp
  rw [<-Q,O]
  simp only [zc]
  have err:∀{n m:Int}{f g:az},n≠0->m≠0->∃x y:az×Int,some (f,n)=some x∧some (g,m)=some y∧((x.2=0∧y=x∧x.1.bh<=x.1.av)∨(x.2≠0∧y.2≠0)):=fun h J=>⟨_,_,rfl,rfl,.inr ⟨h,J⟩⟩
  cases c with
  |false=>exact err (by decide) (by decide)
  |true=>
    simp only [FN,Cb,if_false]
    by_cases h1:am<1
    · simp only [h1,decide_true,if_true];exact err (by decide) (by decide)
    simp only [h1,decide_false,Cb,if_false]
    by_cases F:am>1073741823
    · simp only [F,decide_true,if_true];exact err (by decide) (by decide)
    simp only [F,decide_false,Cb,if_false]
    unfold kF
    obtain⟨x,y,I,e2,g⟩:=Gain_eq N s.bI s.bG
    obtain⟨t,t1,t2,t3⟩:=oK s.bF (a:=a) K
    rw [I,e2]
    simp only [zc]
    rcases g with⟨g0,rfl,g1,g2,g3⟩|⟨g0,g1⟩
    · obtain⟨p,B,C,G,H,D⟩:∃p,eK am=some p∧lR am=some p∧ -256<=p.1∧p.1<=16400∧p.2=0:=by
        obtain⟨p,B,C,G,H,D⟩:=log_eq am za
        exact⟨p,B,C,G,H,D za⟩
      have z0:(y.2 != 0)=false:=by simp [g0]
      rw [z0]
      simp only [Cb,if_false]
      by_cases j:y.1.bI=[]
      · have:dV y.1.bI=some (0,2):=by
          rw [j];unfold dV
          rw [nv_eq sm]
          rfl
        rw [this,j]
        exact err (by decide) (by decide)
      · obtain⟨u,u1,u2,Y,u4,T⟩:=logNat_eq g1 j
        obtain⟨v,v1,v2,v3,v4,v5⟩:=logNat_eq g2 g3
        have L:((y.1.bI.length:Int)==0)=false:=by
          have:=List.length_pos_iff.2 j
          simp;exact j
        rw [L,u1,u2,v1,v2,B,C,t1,t2]
        have W:(u.2 != 0)=false:=by simp [T]
        have z2:(v.2 != 0)=false:=by simp [v5]
        have z3:(p.2 != 0)=false:=by simp [D]
        simp only [zc,W,z2,z3,Cb,if_false]
        by_cases k:t.2.2=0
        · have z4:(t.2.2 != 0)=false:=by simp [k]
          simp only [z4,Cb,if_false]
          rw [w64 (n:=2*p.1) za za,w64 (n:=2*p.1+v.1) za za,w64 (n:=2*p.1+v.1-u.1) za za]
          generalize X:2*p.1+v.1-u.1=q
          have z: -700000<=q∧q<=700000:=by omega
          rw [w64 (n := q - 2) za za, w64 (n := 0 - q) za za, w64 (n := 0 - q - 6) za za, w64 (n := q + 6) za za, w64 (n := 0 - (q + 6)) za za,
            half_at',half_at',rhalf_at za,rhalf_at za]
          simp only [zc]
          rw [floorL_at za,rfloorL_at za]
          simp only [zc]
          rw [show 0-q-6=0-(q+6)by omega,w64 (n:=0-(0-(q+6)) / 2) za za,ceilL_at za,rceilL_at za]
          exact⟨_,_,rfl,rfl,.inl ⟨rfl,rfl,lh_wrap z (t3 k)⟩⟩
        · have z4:(t.2.2 != 0)=true:=by simp [k]
          simp only [z4,if_true]
          exact err k k
    · have z0:(x.2 != 0)=true:=by simp [g0]
      rw [z0]
      simp only [if_true,zc,z0]
      by_cases l:y.2=0
      · have E:(y.2 != 0)=false:=by simp [l]
        have j:y.1.bI=[]:=g1.resolve_left (fun h=>h l)
        rw [E,j]
        exact err g0 (by decide)
      · have E:(y.2 != 0)=true:=by simp [l]
        rw [E]
        exact err g0 l
end Go.Dw.Ss
set_option maxRecDepth 100000
set_option maxHeartbeats 4000000
namespace Go.Dw.Ss
open Go.Dw
open Sd (jg jh gP)
theorem find_l18{l out:List Pick}{i:Nat}(hi:i<l.length)(ho:out.length<=1000):
    ∃k:Nat,dE (kj out l (i:Int)) (out.length:Int)=some ((i:Int),(k:Int),out)∧k<=out.length∧(∀j,(h:k<=j)->(c:j<out.length)->0<jb out[j] l[i])∧(∀h:0<k,∀c:k-1<out.length,¬0<jb (out[k-1]) l[i]):=by
  obtain⟨o,h1,k,rfl,g⟩:=rZ (body:=kj out l (i:Int)) (fun s:Int=>∃k:Nat,s=(k:Int)∧k<=out.length∧∀j,(h:k<=j)->(c:j<out.length)->0<jb out[j] l[i]) (fun s=>s.toNat)
    (fun o => ∃ k : Nat, o = ((i : Int), (k : Int), out) ∧ k ≤ out.length ∧ (∀ j, (h : k ≤ j) → (c : j < out.length) → 0 < jb out[j] l[i]) ∧ (∀ h : 0 < k, ∀ c : k - 1 < out.length, ¬ 0 < jb (out[k - 1]) l[i])) (by
    rintro s ⟨k,rfl,hk,a⟩
    unfold kj
    by_cases h:0<k
    · rw [if_pos so,w64 (n:=(k:Int)-1) za za,ql za za,j0 (i:=k-1) za za,j0 (i:=i) rfl hi]
      simp only [zc,kw]
      by_cases hc:jb (out[k-1]'za) l[i]>0
      · rw [if_pos (by simpa using hc)]
        refine .inl ⟨_,rfl,⟨k-1,za,za,fun j p f=>?_⟩,za⟩
        by_cases e:j=k-1
        · subst e;exact hc
        · exact a j za f
      · rw [if_neg (by simpa using hc)]
        exact .inr ⟨_,rfl,k,rfl,hk,a,fun _ _=>hc⟩
    · rw [if_neg so]
      exact .inr ⟨_,rfl,k,rfl,hk,a,fun c=>(h c).elim⟩) (out.length:Int) ⟨out.length,rfl,B6 _,fun j p f=>za⟩
  exact⟨k,h1,g⟩
theorem shift_eq{out:List Pick}{x:Pick}{k:Nat}(hk:k<=out.length):
    (tI (out++[x]) (k+1) (out.length+1-(k+1)) (((out++[x]).drop k).take (out.length+1-k))).set k x=out.take k++x::out.drop k:=by
  have g:(out++[x]).drop k=out.drop k++[x]:=FZ hk
  have c:((out++[x]).drop k).take (out.length+1-k)=out.drop k++[x]:=by
    rw [g];exact Fe so
  unfold tI
  rw [c]
  have a:Nat.min (out.drop k++[x]).length (out.length+1-(k+1))=out.length-k:=by
    show min _ _=_
    simp
  rw [a]
  have j:(out.drop k++[x]).take (out.length-k)=out.drop k:=by
    rw [Fc sm]
    exact Fe sm
  have l:(out++[x]).drop (k+1+(out.length-k))=[]:=Ec so
  rw [j,l,Cy]
  have f:(out++[x]).take (k+1)=out.take k++[(out++[x])[k]'so]:=by
    rw [pn so,Fc hk]
  rw [f,B8,F9 _ _ so]
  simp [Ck hk]
theorem k31_eq{l out:List Pick}{i k:Nat}(hi:i<l.length)(c:l.length<=1000)(ho:out.length<=1000)(hk:k<=out.length):
    f7 l ((i:Int),(k:Int),out)=some (.next (((i+1:Nat):Int),out.take k++l[i]::out.drop k)):=by
  unfold f7
  simp only
  rw [j0 (i:=i) rfl hi,zc,hP so,zc]
  have hlen:(out++[l[i]]).length=out.length+1:=by simp
  rw [w64 (n:=(k:Int)+1) za za,w64 (n:=(i:Int)+1) za za,hlen]
  rw [tl za za za,zc,tl za za za,zc]
  have t1:(0+((k:Int)+1).toNat)=k+1:=by omega
  have t2:(0+(((out.length+1:Nat):Int)).toNat)=out.length+1:=by omega
  have t3:(0+((k:Int)).toNat)=k:=by omega
  rw [t1,t2,t3,wU za za,zc,wO za za,zc,zc]
  have a:(tI (out++[l[i]]) (k+1) (out.length+1-(k+1)) (((out++[l[i]]).drop k).take (out.length+1-k))).length=out.length+1:=by
    have:=congrArg Eh (shift_eq (x:=l[i]) hk)
    rw [Dc]at this
    rw [this]
    simp
    omega
  rw [ql za za,zc,uL (i:=k) rfl za,zc,shift_eq hk]
  rfl
theorem ins_sorted{out:List Pick}{x:Pick}{k:Nat}(ho:out.Pairwise (fun x y=>jb x y<0))(hk:k<=out.length)(h1:∀j,(h:k<=j)->(t:j<out.length)->0<jb out[j] x)
    (u:∀h:0<k,∀t:k-1<out.length,¬0<jb (out[k-1]) x∧out[k-1]≠x):(out.take k++x::out.drop k).Pairwise (fun x y=>jb x y<0):=by
  have c:(out.take k++out.drop k).Pairwise (fun x y=>jb x y<0):=by rwa [Fb]
  obtain⟨C,D,E⟩:=List.pairwise_append.1 c
  have g:∀y∈out.drop k,jb x y<0:=fun y q=>by
    obtain⟨j,l,rfl⟩:=Eg q
    simp only [Co]at l
    rw [F3]
    have:=h1 (k+j) za za
    have:=fh.tv x out[k+j]
    omega
  have p:∀y∈out.take k,jb y x<0:=fun y q=>by
    obtain⟨j,l,rfl⟩:=Eg q
    simp only [Cp]at l
    rw [F5]
    obtain⟨g1,g2⟩:=u za za
    have z:jb (out[k-1]'za) x<0:=by
      have:=fh.tv (out[k-1]'za) x
      by_cases B:jb (out[k-1]'za) x=0
      · exact(g2 (cmpP_zero B)).elim
      · omega
    by_cases e:j=k-1
    · subst e;exact z
    · have:=List.pairwise_iff_getElem.1 ho j (k-1) za za za
      exact fh.lt this za
  refine List.pairwise_append.2 ⟨C,List.pairwise_cons.2 ⟨g,D⟩,fun a r b f=>?_⟩
  rcases List.mem_cons.1 f with rfl|f
  · exact p a r
  · exact E a r b f
theorem ref_Sort_eq{l:List Pick}(B:l.length<=1000):∃r,kK l=some r∧r.Pairwise (fun x y=>jb x y<0)∧(∀x,x∈r↔x∈l):=by
  obtain⟨o,h1,u,z⟩:=rZ (body:=l9 l) (fun st:Int×List Pick=>∃(i:Nat)(out:List Pick),st=((i:Int),out)∧i<=l.length∧out.length<=i∧out.Pairwise (fun x y=>jb x y<0)∧∀x,x∈out↔x∈l.take i) (fun st=>((l.length:Int)-st.1).toNat)
    (fun o => o.Pairwise (fun x y => jb x y < 0) ∧ ∀ x, x ∈ o ↔ x ∈ l) (by
    rintro st ⟨i,out,rfl,hi,ho,hs,hm⟩
    unfold l9
    simp only
    by_cases a:i<l.length
    · rw [if_pos so]
      obtain⟨k,t,hk,p,g⟩:=find_l18 (l:=l) (out:=out) a za
      rw [t,zc]
      refine .inl ?_
      have c:(∀h:0<k,∀f:k-1<out.length,out[k-1]≠l[i])->∃s',f7 l ((i:Int),(k:Int),out)=some (.next s')∧(∃(i:Nat)(out:List Pick),s'=((i:Int),out)∧i<=l.length∧out.length<=i∧out.Pairwise (fun x y=>jb x y<0)∧∀x,x∈out↔x∈l.take i)∧((l.length:Int)-s'.1).toNat<((l.length:Int)-(i:Int)).toNat:=fun q=>by
        refine⟨_,k31_eq a B za hk,⟨i+1,_,rfl,za,so,ins_sorted hs hk p (fun h f=>⟨g h f,q h f⟩),fun x=>?_⟩,zb⟩
        rw [pn a,Dd,Du,Dd, <-hm x]
        have:x∈out↔x∈out.take k∨x∈out.drop k:=by rw [<-Dd,Fb]
        rw [this]
        simp only [De]
        constructor
        · rintro(h|h|h)
          · exact .inl (.inl h)
          · exact .inr h
          · exact .inl (.inr h)
        · rintro((h|h)|h)
          · exact .inl h
          · exact .inr (.inr h)
          · exact .inr (.inl h)
      dsimp only
      by_cases j:0<k
      · rw [if_pos so,w64 (n:=(k:Int)-1) za za,ql za za,j0 (i:=k-1) za za,j0 (i:=i) rfl a]
        simp only [zc]
        rw [show(_&&_)=eqF (out[k-1]'za) l[i]from rfl,eqs]
        by_cases he:out[k-1]'za=l[i]
        · rw [if_pos (by simpa using he),w64 za za]
          refine⟨_,rfl,⟨i+1,out,sm,za,za,hs,fun x=>?_⟩,zb⟩
          rw [pn a,Dd, <-hm x,De]
          refine⟨.inl,fun h=>h.elim id fun h=>?_⟩
          subst h
          rw [<-he]
          exact C9 _
        · rw [if_neg (by simpa using he)]
          exact c fun _ _=>he
      · rw [if_neg so]
        exact c fun h=>(j h).elim
    · rw [if_neg so]
      refine .inr ⟨_,rfl,hs,fun x=>?_⟩
      rw [hm x,Fe za]) (0,[]) ⟨0,[],rfl,CG _,B6 _,.nil,fun x=>sm⟩
  refine⟨o,?_,u,z⟩
  unfold kK
  rw [h1];rfl
end Go.Dw.Ss
set_option maxRecDepth 100000
set_option maxHeartbeats 4000000
namespace Go.Dw.Ss
open Go.Dw Go.Proofs
open Sd (jg jh gP)
structure oF(s:aj):Prop where
  box:BoxP s.ae.bk
  tab:nB s.ae.bJ
  cap:1<=s.ae.dL∧s.ae.dL<=1099511627776
  tol:0<=s.ae.bz∧s.ae.bz<=1099511627776
  lim:0<=s.ae.dq∧s.ae.dq<=1099511627776
  span:0<=s.ae.ey∧s.ae.ey<=1099511627776
  least:2<=s.ae.dp∧s.ae.dp<=16
  cor:nB s.bN.bF
  num:0<=s.bN.bI∧s.bN.bI<=65536
  den:1<=s.bN.bG∧s.bN.bG<=65536
  tol2:0<=s.bz∧s.bz<=1099511627776
theorem ain_at(a b c:Int):gu a b c=some (Iv.inB a b c):=Iv.rin_eq a b c
theorem nZ{a b c:Int}:Iv.inB a b c=true↔b<=a∧a<=c:=by unfold Iv.inB;simp
theorem oO{a b c:Int}(h:Iv.inB a b c=false):¬(b<=a∧a<=c):=fun e=>by rw [nZ.2 e]at h;cases h
theorem scale_ok'(s:bC):Ok (cP s) (fun b=>b=true↔nB s.bF∧(0<=s.bI∧s.bI<=65536)∧1<=s.bG∧s.bG<=65536):=by
  unfold cP
  rcases kz s.bF with⟨a, -,c⟩|⟨a, -,c⟩
  · rw [a,zc]
    refine FD (fun _=>?_) (fun h=>(h rfl).elim)
    refine FC (fun _=>FC (fun _=>FC (fun _=>FF ?_) (fun _=>FF ?_)) (fun _=>FF ?_)) (fun _=>FF ?_)
    · rw [decide_eq_true_eq];exact⟨fun h=>⟨c,⟨za,za⟩,za,h⟩,fun h=>h.2.2.2⟩
    · exact⟨nofun,fun h=>by have:=h.2;omega⟩
    · exact⟨nofun,fun h=>by have:=h.2;omega⟩
    · exact⟨nofun,fun h=>by have:=h.2;omega⟩
  · rw [a,zc]
    refine FD (nofun) (fun _=>FF ⟨nofun,fun h=>(c h.1).elim⟩)
theorem set_ok(s:aj):Ok (db s) (fun e=>e=0∧oF s∨e=27∧¬oF s):=by
  unfold db
  have x:Ok (gt s.ae []) (fun e=>e=0∧(BoxP s.ae.bk∧nB s.ae.bJ∧(1<=s.ae.dL∧s.ae.dL<=1099511627776)∧(0<=s.ae.bz∧s.ae.bz<=1099511627776)∧(0<=s.ae.dq∧s.ae.dq<=1099511627776)∧(0<=s.ae.ey∧s.ae.ey<=1099511627776)∧2<=s.ae.dp∧s.ae.dp<=16)∨e≠0∧¬oF s):=by
    unfold gt
    rw [ja,zc]
    refine Ok.iteND (fun h=>FF (.inr ⟨by decide,fun e=>h e.box⟩)) (fun a=>?_)
    rcases kz s.ae.bJ with⟨c, -,f⟩|⟨c, -,f⟩
    rotate_left
    · rw [c,zc]
      exact Ok.Ax (fun _=>FF (.inr ⟨by decide,fun e=>f e.tab⟩)) (nofun)
    rw [c,zc]
    refine Ok.Ax (fun h=>(h rfl).elim) (fun _=>?_)
    rw [ain_at,ain_at,ain_at,ain_at,ain_at,zc]
    refine FU (fun h=>FF (.inr ⟨by decide,fun e=>oO h e.cap⟩)) (fun h1=>?_)
    rw [zc]
    refine FU (fun h=>FF (.inr ⟨by decide,fun e=>oO h e.tol⟩)) (fun q=>?_)
    rw [zc]
    refine FU (fun h=>FF (.inr ⟨by decide,fun e=>oO h e.lim⟩)) (fun r=>?_)
    rw [zc]
    refine FU (fun h=>FF (.inr ⟨by decide,fun e=>oO h e.span⟩)) (fun t=>?_)
    rw [zc]
    refine FU (fun h=>FF (.inr ⟨by decide,fun e=>oO h e.least⟩)) (fun u=>?_)
    refine FC (fun h=>by simp at h) (fun _=>?_)
    have:dE (eA [] s.ae) (0:Int)=some (.inl ()):=o0 (by unfold eA;rfl)
    rw [this]
    exact FF (.inl ⟨rfl,a,f,nZ.1 h1,nZ.1 q,nZ.1 r,nZ.1 t,nZ.1 u⟩)
  refine Es x (fun e he=>?_)
  refine Ok.Ax (fun h=>FF (.inr ⟨rfl,(he.resolve_left (fun g=>h g.1)).2⟩)) (fun p=>?_)
  obtain⟨-,a1,a2,a3,a4,a5,j,k⟩:=he.resolve_right (fun g=>g.1 p)
  refine Es (scale_ok' s.bN) (fun b a=>?_)
  refine FU (fun h=>FF (.inr ⟨rfl,fun e=>by rw [a.2 ⟨e.cor,e.num,e.den⟩]at h;cases h⟩)) (fun h=>?_)
  obtain⟨b1,b2,l⟩:=a.1 h
  exact FC (fun h=>FF (.inr ⟨rfl,fun e=>by have:=e.tol2;omega⟩)) (fun _=>FC (fun h=>FF (.inr ⟨rfl,fun e=>by have:=e.tol2;omega⟩)) (fun _=>FF (.inl ⟨rfl,a1,a2,a3,a4,a5,j,k,b1,b2,l,za,za⟩)))
theorem rset_ok(s:aj):Ok (cw s) (fun e=>e=0∧oF s∨e=27∧¬oF s):=by
  unfold cw
  have p:Ok (ko s.ae) (fun b=>(b=true->BoxP s.ae.bk∧nB s.ae.bJ∧(1<=s.ae.dL∧s.ae.dL<=1099511627776)∧(0<=s.ae.bz∧s.ae.bz<=1099511627776)∧(0<=s.ae.dq∧s.ae.dq<=1099511627776)∧(0<=s.ae.ey∧s.ae.ey<=1099511627776)∧2<=s.ae.dp∧s.ae.dp<=16)∧(b=false->¬oF s)):=by
    unfold ko
    rw [gC,zc]
    refine FC (fun a=>?_) (fun h=>FF ⟨nofun,fun _ e=>h e.box⟩)
    rcases kz s.ae.bJ with⟨-,c,f⟩|⟨-,c,f⟩
    rotate_left
    · rw [c,zc]
      exact FD (nofun) (fun _=>FF ⟨nofun,fun _ e=>f e.tab⟩)
    rw [c,zc]
    refine FD (fun _=>?_) (fun h=>(h rfl).elim)
    have no:(oF s->False)->Ok (some false) (fun b=>(b=true->BoxP s.ae.bk∧nB s.ae.bJ∧(1<=s.ae.dL∧s.ae.dL<=1099511627776)∧(0<=s.ae.bz∧s.ae.bz<=1099511627776)∧(0<=s.ae.dq∧s.ae.dq<=1099511627776)∧(0<=s.ae.ey∧s.ae.ey<=1099511627776)∧2<=s.ae.dp∧s.ae.dp<=16)∧(b=false->¬oF s)):=fun h=>FF ⟨nofun,fun _=>h⟩
    refine FC (fun _=>FC (fun _=>FC (fun _=>FC (fun _=>FC (fun _=>FC (fun _=>FC (fun _=>FC (fun _=>FC (fun _=>FF ?_) ?_) ?_) ?_) ?_) ?_) ?_) ?_) ?_) ?_
    · constructor
      · intro h;rw [decide_eq_true_eq]at h
        exact⟨a,f,⟨za,za⟩,⟨za,za⟩,⟨za,za⟩,⟨za,za⟩,za,h⟩
      · intro h e;rw [decide_eq_false_iff_not]at h;exact h e.least.2
    · exact fun h=>no fun e=>by have:=e.least;omega
    · exact fun h=>no fun e=>by have:=e.span;omega
    · exact fun h=>no fun e=>by have:=e.span;omega
    · exact fun h=>no fun e=>by have:=e.lim;omega
    · exact fun h=>no fun e=>by have:=e.lim;omega
    · exact fun h=>no fun e=>by have:=e.tol;omega
    · exact fun h=>no fun e=>by have:=e.tol;omega
    · exact fun h=>no fun e=>by have:=e.cap;omega
    · exact fun h=>no fun e=>by have:=e.cap;omega
  refine Es p (fun e he=>?_)
  refine FU (fun h=>FF (.inr ⟨rfl,he.2 h⟩)) (fun l=>?_)
  obtain⟨a1,a2,a3,a4,a5,g,j⟩:=he.1 l
  rw [<-(scale_eq s.bN).1]
  refine Es (scale_ok' s.bN) (fun b a=>?_)
  refine FU (fun h=>FF (.inr ⟨rfl,fun e=>by rw [a.2 ⟨e.cor,e.num,e.den⟩]at h;cases h⟩)) (fun h=>?_)
  obtain⟨b1,b2,k⟩:=a.1 h
  exact FC (fun h=>FF (.inr ⟨rfl,fun e=>by have:=e.tol2;omega⟩)) (fun _=>FC (fun h=>FF (.inr ⟨rfl,fun e=>by have:=e.tol2;omega⟩)) (fun _=>FF (.inl ⟨rfl,a1,a2,a3,a4,a5,g,j,b1,b2,k,za,za⟩)))
theorem set_two(s:aj):(db s=some 0∧cw s=some 0∧oF s)∨(db s=some 27∧cw s=some 27):=by
  obtain⟨a,a1,a2⟩:=set_ok s
  obtain⟨b,b1,b2⟩:=rset_ok s
  rcases a2 with⟨rfl,a2⟩|⟨rfl,a2⟩<;>rcases b2 with⟨rfl,b2⟩|⟨rfl,b2⟩
  · exact .inl ⟨a1,b1,a2⟩
  · exact(b2 a2).elim
  · exact(a2 b2).elim
  · exact .inr ⟨a1,b1⟩
theorem nF{t:aw}(j:nB t)(b:ah)(p:aa):∃r,dK t b p=some r∧eV t b p=some r∧(¬PosP p->r.2.2≠0):=by
  unfold dK eV
  rcases kz t with⟨g,e2, -⟩|⟨-, -,h⟩
  rotate_left
  · exact(h j).elim
  rw [g,e2,ja,gC,l6,lI]
  simp only [zc,bne_self_eq_false,Cb,if_false]
  by_cases c:BoxP b
  · rw [decide_eq_true c]
    simp only [FN,Cb,if_false]
    by_cases hp:PosP p
    · rw [decide_eq_true hp]
      simp only [FN,Cb,if_false]
      unfold kY
      obtain⟨n,n1,k,u,x⟩:=near_eq b p
      obtain⟨f,f1,f2,f3,f4⟩:=far_eq b p
      obtain⟨r,l,q⟩:=between_eq t (a:=n) f4
      simp only [n1,k,f1,f2,zc,l,q]
      exact⟨_,rfl,rfl,fun h=>(h hp).elim⟩
    · rw [decide_eq_false hp]
      exact⟨(0,0,20),rfl,rfl,fun _=>by decide⟩
  · rw [decide_eq_false c]
    exact⟨(0,0,20),rfl,rfl,fun _=>by decide⟩
theorem epAt_len{v:ac}(a:InvLen v){s:Sid}{t:Int}{e:ba}(h:epAt v s t=some e):gq e.bQ:=by
  unfold epAt at h
  cases hc:ow v s with
  |none=>rw [hc]at h;cases h
  |some c=>
    rw [hc]at h
    exact(a.all c (chan_mem hc).1).2 e (epIn_mem h).1
theorem atR_len{v:ac}(h:IA v)(s:Sid)(t:Int):gq (atR v s t).1.bQ:=by
  unfold atR
  have a:gq zEp.bQ:=⟨by simp [zEp],by simp [zEp]⟩
  split
  · cases c:epAt v s t with
    |none=>exact a
    |some e=>exact epAt_len h.len c
  · exact a
theorem used_eq{s:aj}(hs:oF s)(z:cw s=some 0){v:ac}(k:IA v){p:Pick}(hp:SLen p):∃(ok:Bool)(c f:br)(j:ba),eN s v p=some (c,j,ok)∧eh s v p=some (f,ok)∧c=f∧
    (ok=true->j=(atR v p.bc p.cb).1∧c.bv=j.bM∧c=f∧gq j.bQ∧PosP c.bv∧0<=c.bV∧(c.bV<=c.ch∧c.ch<=18014398509481984)∧c.d7=1∧∃r,dK s.ae.bJ s.ae.bk c.bv=some r∧r.2.2=0):=by
  unfold eN eh
  rw [z,vp_eq hp,ref_vp_eq hp,At_any k,refAt_any k]
  simp only [zc,bne_self_eq_false,Cb,if_false]
  cases hk:vPk p with
  |false=>exact⟨false,_,_,_,rfl,rfl,rfl,nofun⟩
  |true=>
    simp only [FN,Cb,if_false]
    have y:=atR_len k p.bc p.cb
    generalize atR v p.bc p.cb=x at*
    by_cases q:x.2=0
    rotate_left
    · have:(x.2 != 0)=true:=by simp [q]
      simp only [this,if_true]
      exact⟨false,_,_,_,rfl,rfl,rfl,nofun⟩
    have l:(x.2 != 0)=false:=by simp [q]
    simp only [l,Cb,if_false]
    obtain⟨r,t,C,D⟩:=nF hs.tab s.ae.bk x.1.bM
    rw [C,zc]
    unfold im fJ
    rcases kz s.ae.bJ with⟨u, -, -⟩|⟨-, -,h⟩
    rotate_left
    · exact(h hs.tab).elim
    rw [u,ja,l6,decide_eq_true hs.box]
    simp only [zc,bne_self_eq_false,Cb,if_false,FN]
    unfold vPk at hk
    simp only [C4,decide_eq_true_eq]at hk
    obtain⟨-,B,E,k3,F, -⟩:=hk
    by_cases a:PosP x.1.bM
    · rw [decide_eq_true a,if_pos rfl,if_pos so,if_pos so,if_pos so,if_pos sm,zc,t]
      simp only [zc]
      by_cases g:r.2.2=0
      · have:(r.2.2 != 0)=false:=by simp [g]
        simp only [this,Cb,if_false,zc,show(1:Int)<=100 by decide,decide_true,FN,bne_self_eq_false]
        exact⟨true,_,_,_,rfl,rfl,rfl,fun _=>⟨rfl,rfl,rfl,y,a,B,⟨by dsimp only;omega,by dsimp only;omega⟩,rfl,r,t,g⟩⟩
      · have:(r.2.2 != 0)=true:=by simp [g]
        simp only [this,if_true,zc,show(1:Int)<=100 by decide,decide_true,FN,Cb,if_false]
        exact⟨false,_,_,_,rfl,rfl,rfl,nofun⟩
    · have g:(r.2.2 != 0)=true:=by simp [D a]
      rw [decide_eq_false a,g]
      exact⟨false,_,_,_,rfl,rfl,rfl,nofun⟩
end Go.Dw.Ss
set_option maxRecDepth 100000
set_option maxHeartbeats 4000000
namespace Go.Dw.Ss
open Go.Dw Go.Proofs
open Sd (jg jh gP)
theorem nS{α:Type}(l:List α):l.take l.length=l:=Ek
theorem smallR(r:bp)(h:r.bD.length<=9223372036854775807):Ok (gy r) (fun b=>b=true->gq r):=by
  unfold gy
  refine Es (P:=fun o=>o= .inr false∨(o= .inl ()∧∀x∈r.bD,x.cf.length<=200)) (Ez (fun s:Int=>∃i:Nat,s=i∧i<=r.bD.length∧∀x∈r.bD.take i,x.cf.length<=200) (fun s=>((r.bD.length:Int)-s).toNat) ?_ ⟨0,rfl,CG _,sm⟩) (fun o ho=>?_)
  · rintro s ⟨i,rfl,i1,i2⟩
    unfold hF
    refine FC (fun f=>?_) (fun c=>?_)
    · have hi:i<r.bD.length:=by omega
      rw [j0 rfl hi,zc,w64 za za]
      refine FC (fun _=>FH (.inl rfl)) (fun hle=>FB ⟨i+1,sm,za,fun x a=>?_⟩ za)
      rw [pn hi]at a
      rcases List.mem_append.1 a with a|a
      · exact i2 x a
      · rw [List.mem_singleton.1 a];omega
    · have:i=r.bD.length:=by omega
      subst this
      exact FH (.inr ⟨rfl,by rw [nS]at i2;exact i2⟩)
  · rcases ho with rfl|⟨rfl,g⟩
    · exact FF sm
    · refine FF fun h=>⟨?_,fun x a=>by have:=g x a;omega⟩
      have:(r.bD.length:Int)<=12:=by simpa using h
      omega
structure ArgI(v:ac):Prop where
  len:v.bg.length<=9223372036854775807
  src:∀c∈v.bg,Sq.mX c.bc
  eps:∀c∈v.bg,∀e∈c.bA,e.bQ.bD.length<=9223372036854775807
theorem smallI(v:ac)(h:ArgI v):Ok (fE v) (fun b=>b=true->IA v):=by
  have t:=h.len
  unfold fE
  refine Es (P:=fun o=>o= .inr false∨(o= .inl ()∧∀x∈v.bg,ChLen x)) (Ez (fun s:Int=>∃i:Nat,s=i∧i<=v.bg.length∧∀x∈v.bg.take i,ChLen x) (fun s=>((v.bg.length:Int)-s).toNat) ?_ ⟨0,rfl,CG _,sm⟩) (fun o ho=>?_)
  · rintro s ⟨i,rfl,i1,i2⟩
    unfold fS
    refine FC (fun j=>?_) (fun g=>?_)
    rotate_left
    · have:i=v.bg.length:=by omega
      subst this
      exact FH (.inr ⟨rfl,by rw [nS]at i2;exact i2⟩)
    have hi:i<v.bg.length:=by omega
    have p:=h.eps _ (C9 hi)
    rw [j0 rfl hi,zc]
    refine FC (fun _=>FH (.inl rfl)) (fun hle=>?_)
    rw [zc]
    refine Es (P:=fun o=>o= .inr false∨(o= .inl (i:Int)∧∀e∈v.bg[i].bA,gq e.bQ)) (Ez (fun s:Int=>∃k:Nat,s=k∧k<=v.bg[i].bA.length∧∀e∈v.bg[i].bA.take k,gq e.bQ) (fun s=>((v.bg[i].bA.length:Int)-s).toNat) ?_ ⟨0,rfl,CG _,sm⟩) (fun o ho=>?_)
    · rintro s ⟨k,rfl,u,l⟩
      unfold fQ
      refine FC (fun j=>?_) (fun g=>?_)
      · have hk:k<v.bg[i].bA.length:=by omega
        rw [j0 rfl hi,zc,j0 rfl hk,zc,w64 za za]
        refine Es (smallR _ (p _ (C9 hk))) (fun b c=>?_)
        refine FU (fun _=>FH (.inl rfl)) (fun f=>FB ⟨k+1,sm,za,fun x a=>?_⟩ za)
        rw [pn hk]at a
        rcases List.mem_append.1 a with a|a
        · exact l x a
        · rw [List.mem_singleton.1 a];exact c f
      · have:k=v.bg[i].bA.length:=by omega
        subst this
        exact FH (.inr ⟨rfl,by rw [nS]at l;exact l⟩)
    · rcases ho with rfl|⟨rfl,q⟩
      · exact FH (.inl rfl)
      · dsimp only
        rw [w64 za za]
        refine FB ⟨i+1,sm,za,fun x a=>?_⟩ za
        rw [pn hi]at a
        rcases List.mem_append.1 a with a|a
        · exact i2 x a
        · rw [List.mem_singleton.1 a];exact⟨za,q⟩
  · rcases ho with rfl|⟨rfl,r⟩
    · exact FF sm
    · refine FF fun c=>⟨⟨?_,r⟩,h.src⟩
      have:(v.bg.length:Int)<=10:=by simpa using c
      omega
noncomputable def ψ (v:ac) (p:Pick):ba:=(atR v p.bc p.cb).1
noncomputable def φ (s:aj) (v:ac) (p:Pick):br:=((eN s v p).getD (⟨⟨0,0,0⟩,0,0,0⟩,⟨0,0,⟨0,0⟩,⟨0,0,0⟩,⟨[]⟩⟩,false)).1
noncomputable def U (s:aj) (v:ac) (p:Pick):Bool:=((eN s v p).getD (⟨⟨0,0,0⟩,0,0,0⟩,⟨0,0,⟨0,0⟩,⟨0,0,0⟩,⟨[]⟩⟩,false)).2.2
theorem used_U{s:aj}(hs:oF s)(u:cw s=some 0){v:ac}(t:IA v){p:Pick}(hp:SLen p):∃(f:ba)(g:br),eN s v p=some (φ s v p,f,U s v p)∧eh s v p=some (g,U s v p)∧(U s v p=true->f=ψ v p∧(φ s v p).bv=(ψ v p).bM∧φ s v p=g∧PosP (φ s v p).bv∧0<=(φ s v p).bV∧((φ s v p).bV<=(φ s v p).ch∧(φ s v p).ch<=18014398509481984)∧(φ s v p).d7=1∧∃r,dK s.ae.bJ s.ae.bk (φ s v p).bv=some r∧r.2.2=0):=by
  obtain⟨ok,g,k,f,j,e2, -,l⟩:=used_eq hs u t hp
  have q:U s v p=ok:=by unfold U;rw [j];rfl
  have x:φ s v p=g:=by unfold φ;rw [j];rfl
  rw [q,x]
  refine⟨f,k,j,e2,fun h=>?_⟩
  obtain⟨a,b,c, -,d⟩:=l h
  exact⟨a,by rw [b,a];rfl,c,d⟩
theorem sorts_eq{l:List Pick}(a:l.length<=1000):∃r,ln l=some r∧kK l=some r∧r.length<=l.length∧∀x∈r,x∈l:=by
  obtain⟨r,p,t,f,u⟩:=Sort_eq a
  obtain⟨q,c,j,k⟩:=ref_Sort_eq a
  have:q=r:=oo j t fun x=>(k x).trans (f x).symm
  rw [this]at c
  exact⟨r,p,c,u,fun x g=>(f x).1 g⟩
theorem gather_eq{s:aj}(hs:oF s)(r:cw s=some 0){v:ac}(j:IA v){x:List Pick}(t:∀p∈x,SLen p)(z:x.length<=1000):
    dE (fI x s v) ((0:Int),[],[],[])=some (x.filter (U s v),(x.filter (U s v)).map (φ s v),(x.filter (U s v)).map (ψ v)):=by
  refine Et ?_
  refine Ez (fun st=>∃i:Nat,st=((i:Int),(x.take i).filter (U s v),((x.take i).filter (U s v)).map (φ s v),((x.take i).filter (U s v)).map (ψ v))∧i<=x.length) (fun st=>((x.length:Int)-st.1).toNat) ?_ ⟨0,rfl,CG _⟩
  rintro st ⟨i,rfl,i1⟩
  unfold fI
  dsimp only
  refine FC (fun q=>?_) (fun k=>FH (by rw [show i=x.length by omega,nS]))
  have hi:i<x.length:=by omega
  obtain⟨u,B,c, -,f⟩:=used_U hs r j (t _ (C9 hi))
  have hf:((x.take i).filter (U s v)).length<=1000:=CJ (F6 _ _) so
  rw [j0 rfl hi,zc,c,zc,w64 (n:=(i:Int)+1) za za]
  dsimp only
  cases a:U s v x[i]with
  |true=>
    obtain⟨rfl, -⟩:=f a
    have a1:∀{α:Type}(l:List α)(y:α)(n:Nat),l.length<=1000->n<=200->pG l [y] n=some (l++[y]):=fun l y n h1 g=>by
      unfold pG
      rw [if_pos]
      have:=FR (show l.length+ [y].length<=1001 by simp;omega) g
      omega
    rw [if_pos rfl,a1 _ _ _ hf (by decide),zc,a1 _ _ _ (by rw [DT];exact hf) (by decide),zc,a1 _ _ _ (by rw [DT];exact hf) (by decide),zc]
    refine FB ⟨i+1,?_,za⟩ zb
    rw [pn hi,F1]
    simp [a]
  |false=>
    rw [if_neg sm]
    refine FB ⟨i+1,?_,za⟩ zb
    rw [pn hi,F1]
    simp [a]
theorem picks_eq{s:aj}(hs:oF s)(j:cw s=some 0){v:ac}(c:IA v){x:List Pick}(k:∀p∈x,SLen p)(q:x.length<=1000):
    dE (jD x s v) ((0:Int),[])=some (x.filter (U s v)):=by
  refine Et ?_
  refine Ez (fun st=>∃i:Nat,st=((i:Int),(x.take i).filter (U s v))∧i<=x.length) (fun st=>((x.length:Int)-st.1).toNat) ?_ ⟨0,rfl,CG _⟩
  rintro st ⟨i,rfl,i1⟩
  unfold jD
  dsimp only
  refine FC (fun g=>?_) (fun f=>FH (by rw [show i=x.length by omega,nS]))
  have hi:i<x.length:=by omega
  obtain⟨l,r, -,e2, -⟩:=used_U hs j c (k _ (C9 hi))
  have hf:((x.take i).filter (U s v)).length<=1000:=CJ (F6 _ _) so
  rw [j0 rfl hi,zc,e2,zc,w64 (n:=(i:Int)+1) za za]
  dsimp only
  cases a:U s v x[i]with
  |true=>
    rw [if_pos rfl]
    have a1:pG ((x.take i).filter (U s v)) [x[i]] 104=some ((x.take i).filter (U s v)++[x[i]]):=by
      unfold pG
      rw [if_pos]
      have:=FR (show((x.take i).filter (U s v)).length+ [x[i]].length<=1001 by simp only [CT,CU];omega) (B6 104)
      omega
    rw [a1,zc]
    refine FB ⟨i+1,?_,za⟩ zb
    rw [pn hi,F1]
    simp [a]
  |false=>
    rw [if_neg sm]
    refine FB ⟨i+1,?_,za⟩ zb
    rw [pn hi,F1]
    simp [a]
theorem est_loops(s:aj){v:ac}(q:IA v)(b:ah){L:List Pick}(E:L.length<=1000)(l:∀p∈L,(φ s v p).bv=(ψ v p).bM):∀d i:Nat,i+d=L.length->∀out:List az,out.length<=i->
    (∀e∈out,e.bh<=e.av)->
    ∃r,dE (dl ⟨L,L.map (φ s v),L.map (ψ v)⟩ b s) ((i:Int),out)=some r∧dE (dQ L v b s) ((i:Int),out)=some r∧r.length<=L.length∧∀e∈r,e.bh<=e.av
  |0,i,hi,out,ho,j=>by
    refine⟨out,o0 ?_,o0 ?_,za,j⟩
    · unfold dl;dsimp only;rw [if_neg so]
    · unfold dQ;dsimp only;rw [if_neg so]
  |d+1,i,hi,out,ho,j=>by
    have c:i<L.length:=by omega
    have hs:=l _ (C9 c)
    obtain⟨n,n1,F,O,Q⟩:=near_eq b (ψ v L[i]).bM
    obtain⟨f,f1,f2,f3,f4⟩:=far_eq b (ψ v L[i]).bM
    obtain⟨x,y,K,N,z⟩:=station_eq s.bN (r:=(ψ v L[i]).bQ) (atR_len q _ _) L[i].bK (a:=n) (b:=f) f4
    have k:pG out [x.1] 16=some (out++[x.1]):=by unfold pG;rw [if_pos (by simp only [CT,CU];omega)]
    have B:dl ⟨L,L.map (φ s v),L.map (ψ v)⟩ b s ((i:Int),out)=some (.next (((i+1:Nat):Int),if x.2=0 then out++[x.1]else out)):=by
      unfold dl
      dsimp only
      rw [if_pos so,j0 (i:=i) rfl (by simpa using c),zc,j0 (i:=i) rfl (by simpa using c),zc,j0 rfl c,zc,F4,F4,hs,n1,zc,f1,zc,K,zc,w64 (n:=(i:Int)+1) za za,k]
      by_cases h:x.2=0
      · rw [if_pos (by simp [h]),if_pos h];rfl
      · rw [if_neg (by simp [h]),if_neg h];rfl
    have C:dQ L v b s ((i:Int),out)=some (.next (((i+1:Nat):Int),if x.2=0 then out++[x.1]else out)):=by
      unfold dQ
      dsimp only
      rw [if_pos so,j0 rfl c,zc,refAt_any q,zc]
      show((iA b (ψ v L[i]).bM).bind fun t=>(jP b (ψ v L[i]).bM).bind fun u=>(jp s.bN (ψ v L[i]).bQ L[i].bK t u).bind _)=_
      rw [F,zc,f2,zc,N,zc,w64 (n:=(i:Int)+1) za za]
      rcases z with⟨h,rfl, -⟩|⟨h,D⟩
      · rw [if_pos (by simp [h]),if_pos h,k];rfl
      · rw [if_neg (by simp [D]),if_neg h];rfl
    obtain ⟨r, G, H, I, J⟩ := est_loops s q b E l d (i + 1) za (if x.2 = 0 then out ++ [x.1] else out) (by split <;> (try simp) <;> omega) (fun e he => by
      split at he
      · rename_i h
        rcases List.mem_append.1 he with he|he
        · exact j e he
        · rw [List.mem_singleton.1 he]
          rcases z with⟨-, -,g⟩|⟨g, -⟩
          · exact g
          · exact(g h).elim
      · exact j e he)
    exact⟨r,by rw [pe B,G],by rw [pe C,H],I,J⟩
def LS(l:List Pick):Prop:=l.length<=20∧∀p∈l,SLen p
theorem bent_ok(b:ah)(d:Src)(c:cy d):Ok (oG b d) (fun r=>cy r.2):=by
  unfold oG
  refine Es (eu _ d c sm sm) (fun f h1=>Es (dU _ _ h1.2 za za) (fun g a=>?_))
  exact FD (fun _=>FF a.2.2) (fun _=>FD (fun _=>FF a.2.2) (fun _=>FD (fun _=>FF a.2.2) (fun _=>FD (fun _=>FF a.2.2) (fun _=>FD (fun _=>FF a.2.2) (fun _=>FF a.2.2)))))
theorem oJ(t:aw)(h1:t.bh.length<=1000)(p:t.av.length<=1000)(d:Src)(g:cy d):Ok (jf t d) (fun r=>cy r.2):=by
  unfold jf
  refine Es (Er so) (fun x j=>Es (Er so) (fun y l=>?_))
  simp only [List.nil_append]at j l
  subst j l
  refine FD (fun _=>FF g) (fun n1=>FD (fun _=>FF g) (fun q=>Es (dU _ _ g za za) (fun z c=>?_)))
  refine FD (fun _=>Es (eu _ _ c.2.2 sm sm) (fun a f=>FF f.2)) (fun _=>?_)
  refine FD (fun _=>Es (dU _ _ c.2.2 za za) (fun k hk=>Es (eu _ _ hk.2.2 sm sm) (fun a f=>Es (FI za za) (fun _ _=>Es (FG za za) (fun _ _=>FF f.2))))) (fun _=>?_)
  refine FD (fun _=>Es (dU _ _ c.2.2 za za) (fun k hk=>Es (eu _ _ hk.2.2 sm sm) (fun a f=>Es (FI za za) (fun _ _=>Es (FG za za) (fun _ _=>FF f.2))))) (fun _=>?_)
  refine FD (fun _=>?_) (fun _=>FD (fun _=>?_) (fun _=>?_))
  · rw [w64 za za]
    exact Es (FT za za za) (fun _ _=>FF c.2.2)
  · exact Es (FT za za za) (fun _ _=>FF c.2.2)
  · exact Es (FT za za za) (fun _ _=>Es (FT za za za) (fun _ _=>FF c.2.2))
theorem bentSettings_ok(a:aj)(h1:a.ae.bJ.bh.length<=1000)(g:a.ae.bJ.av.length<=1000)(j:a.bN.bF.bh.length<=1000)(k:a.bN.bF.av.length<=1000)(d:Src)(l:cy d):Ok (iJ a d) (fun r=>cy r.2):=by
  unfold iJ
  refine Es (dU _ _ l za za) (fun x f=>?_)
  refine FD (fun _=>Es (bent_ok _ _ f.2.2) (fun y c=>FF c)) (fun _=>?_)
  refine FD (fun _=>Es (oJ _ h1 g _ f.2.2) (fun y c=>FF c)) (fun _=>?_)
  refine FD (fun _=>Es (eu _ _ f.2.2 sm sm) (fun y c=>FF c.2)) (fun _=>?_)
  refine FD (fun _=>Es (eu _ _ f.2.2 sm sm) (fun y c=>FF c.2)) (fun _=>?_)
  refine FD (fun _=>Es (oJ _ j k _ f.2.2) (fun y c=>FF c)) (fun _=>?_)
  exact Es (eu _ _ f.2.2 sm sm) (fun y c=>FF c.2)
theorem smallS(s:aj):Ok (eU s) (fun _=>True):=by
  have a:∀t,Ok (gE t) (fun _=>True):=fun t=>by
    unfold gE;exact FC (fun _=>FF trivial) (fun _=>FF trivial)
  have c:Ok (mp s.ae.bk) (fun _=>True):=by
    unfold mp
    exact FC (fun _=>FF trivial) (fun _=>FC (fun _=>FF trivial) (fun _=>FC (fun _=>FF trivial) (fun _=>FC (fun _=>FF trivial) (fun _=>FC (fun _=>FF trivial) (fun _=>FC (fun _=>FF trivial) (fun _=>FC (fun _=>FF trivial) (fun _=>FC (fun _=>FF trivial) (fun _=>FC (fun _=>FF trivial) (fun _=>FC (fun _=>FF trivial) (fun _=>FC (fun _=>FF trivial) (fun _=>FC (fun _=>FF trivial) (fun _=>FF trivial))))))))))))
  unfold eU
  exact Es (a _) (fun _ _=>Ew (fun _=>Es (a _) (fun _ _=>Ew (fun _=>Es c (fun _ _=>FF trivial)) (fun _=>FF trivial))) (fun _=>FF trivial))
end Go.Dw.Ss
set_option maxRecDepth 100000
set_option maxHeartbeats 4000000
namespace Go.Dw.Ss
open Go.Dw Go.Proofs
theorem shiftG{α:Type}{out:List α}{z x:α}{k:Nat}(hk:k<=out.length):
    (tI (out++[z]) (k+1) (out.length+1-(k+1)) (((out++[z]).drop k).take (out.length+1-k))).set k x=out.take k++x::out.drop k:=by
  have g:(out++[z]).drop k=out.drop k++[z]:=FZ hk
  have c:((out++[z]).drop k).take (out.length+1-k)=out.drop k++[z]:=by
    rw [g];exact Fe so
  unfold tI
  rw [c]
  have a:Nat.min (out.drop k++[z]).length (out.length+1-(k+1))=out.length-k:=by
    show min _ _=_
    simp
  rw [a]
  have j:(out.drop k++[z]).take (out.length-k)=out.drop k:=by
    rw [Fc sm]
    exact Fe sm
  have l:(out++[z]).drop (k+1+(out.length-k))=[]:=Ec so
  rw [j,l,Cy]
  have f:(out++[z]).take (k+1)=out.take k++[(out++[z])[k]'so]:=by
    rw [pn so,Fc hk]
  rw [f,B8,F9 _ _ so]
  simp [Ck hk]
theorem find32{l out:List Int}{i:Nat}(hi:i<l.length)(ho:out.length<=1000):Ok (dE (kU out l (i:Int)) (0:Int)) (fun o=>∃k:Nat,o=((i:Int),(k:Int),out)∧k<=out.length∧(∀j,j<k->∀h:j<out.length,out[j]<l[i])∧∀h:k<out.length,l[i]<=out[k]):=by
  refine Ez (fun st=>∃k:Nat,st=(k:Int)∧k<=out.length∧∀j,j<k->∀h:j<out.length,out[j]<l[i]) (fun st=>((out.length:Int)-st).toNat) ?_ ⟨0,rfl,CG _,fun j h=>za⟩
  rintro st ⟨k,rfl,c,a⟩
  unfold kU
  refine FC (fun p=>?_) (fun f=>FH ⟨k,rfl,c,a,fun h=>za⟩)
  have hk:k<out.length:=by omega
  rw [ql za za,zc,j0 rfl hk,zc,j0 rfl hi,zc]
  refine FC (fun h=>?_) (fun h=>FH ⟨k,rfl,c,a,fun _=>za⟩)
  rw [w64 za za]
  refine FB ⟨k+1,sm,za,fun j q g=>?_⟩ za
  by_cases e:j=k
  · subst e;exact h
  · exact a j za g
theorem sorted32{l:List Int}(L:l.length<=1000):Ok (ku l) (fun r=>r.Perm l∧r.Pairwise (· <= ·)):=by
  unfold ku
  rw [Ep]
  refine Ez (fun st=>∃(i:Nat)(out:List Int),st=((i:Int),out)∧i<=l.length∧out.Perm (l.take i)∧out.Pairwise (· <= ·)) (fun st=>((l.length:Int)-st.1).toNat) ?_ ⟨0,[],rfl,CG _,sm,sm⟩
  rintro st ⟨i,out,rfl,i1,i2,i3⟩
  have G:out.length=i:=by rw [i2.length_eq,Cp];omega
  unfold mU
  dsimp only
  refine FC (fun F=>?_) (fun E=>FH ⟨by rw [Fe za]at i2;exact i2,i3⟩)
  have hi:i<l.length:=by omega
  refine Es (find32 (out:=out) hi za) (fun o⟨k,ho,B,H,k3⟩=>?_)
  subst ho
  dsimp only
  rw [hP so,zc]
  have hlen:(out++[(0:Int)]).length=out.length+1:=by simp
  rw [w64 (n:=(k:Int)+1) za za,w64 (n:=(i:Int)+1) za za,hlen]
  rw [tl za za za,zc,tl za za za,zc]
  have t1:(0+((k:Int)+1).toNat)=k+1:=by omega
  have t2:(0+(((out.length+1:Nat):Int)).toNat)=out.length+1:=by omega
  have t3:(0+((k:Int)).toNat)=k:=by omega
  rw [t1,t2,t3,wU za za,zc,wO za za,zc,j0 rfl hi,zc]
  have D:(tI (out++[(0:Int)]) (k+1) (out.length+1-(k+1)) (((out++[(0:Int)]).drop k).take (out.length+1-k))).length=out.length+1:=by
    have:=congrArg Eh (shiftG (z:=(0:Int)) (x:=l[i]) B)
    rw [Dc]at this
    rw [this]
    simp
    omega
  rw [ql za za,zc,uL (i:=k) rfl za,zc,shiftG B]
  have c:(out.take k++out.drop k).Pairwise (fun x y:Int=>x<=y):=by rwa [Fb]
  obtain⟨I,J,K⟩:=List.pairwise_append.1 c
  have p:∀y∈out.drop k,l[i]<=y:=fun y t=>by
    obtain⟨j,q,rfl⟩:=Eg t
    simp only [Co]at q
    rw [F3]
    have C:=k3 za
    by_cases e:j=0
    · subst e;exact C
    · have:=List.pairwise_iff_getElem.1 i3 k (k+j) za za za
      omega
  have f:∀y∈out.take k,y<=l[i]:=fun y t=>by
    obtain⟨j,q,rfl⟩:=Eg t
    simp only [Cp]at q
    rw [F5]
    have:=H j za za
    omega
  refine FB ⟨i+1,_,rfl,za,?_,List.pairwise_append.2 ⟨I,List.pairwise_cons.2 ⟨p,J⟩,fun a u b g=>?_⟩⟩ zb
  · rw [pn hi]
    refine List.perm_middle.trans ?_
    rw [Fb]
    exact(List.Perm.cons _ i2).trans (F7 (l₁:=[l[i]]))
  · rcases List.mem_cons.1 g with rfl|g
    · exact f a u
    · exact K a u b g
theorem median_eq{l:List Int}(h1:1<=l.length)(g:l.length<=1000):∃m s,sY l=some s∧s.length=l.length∧s.getD ((l.length-1) / 2) 0=m∧kr l=some m:=by
  obtain⟨s,s1,s2,s3⟩:=BZ (l:=l) za
  obtain⟨r,p,q,t⟩:=sorted32 g
  have e:r=s:=List.Perm.eq_of_pairwise (le:=fun x y:Int=>x<=y) (fun a b _ _ h1 f=>Int.le_antisymm h1 f) t s3 (q.trans s2.symm)
  subst e
  have c:=s2.length_eq
  refine⟨_,r,s1,c,rfl,?_⟩
  unfold kr
  rw [p,zc,w64 (n:=(l.length:Int)-1) za za]
  have j:qa .i64 ((l.length:Int)-1) 2=some (((l.length-1) / 2:Nat):Int):=by
    unfold qa
    rw [if_neg (by decide),E6 za,w64 za za]
    congr 1;omega
  rw [j,zc,oA (l:=r) (k:=(l.length-1) / 2) za,zc]
theorem med_at{l:List az}(f:az->Int)(g:List az->(Int×List Int)->Option (pa (Int×List Int) (List Int)))
    (a:∀s1 s2,g l (s1,s2)=if(decide (s1<(l.length:Int)))=true then((pb l s1).bind fun k=>(pG s2 [f k] 8).bind fun p=>some (.next ((Dt .i64 (s1+(1:Int))),p)))else(some (.stop s2)))
    (q:l.length<=1000):dE (g l) ((0:Int),[])=some (l.map f):=by
  refine Et ?_
  refine Ez (fun st=>∃i:Nat,st=((i:Int),(l.take i).map f)∧i<=l.length) (fun st=>((l.length:Int)-st.1).toNat) ?_ ⟨0,rfl,CG _⟩
  rintro st ⟨i,rfl,i1⟩
  rw [a]
  refine FC (fun j=>?_) (fun c=>FH (by rw [Fe za]))
  have hi:i<l.length:=by omega
  rw [j0 rfl hi,zc,hP so,zc,w64 za za]
  exact FB ⟨i+1,by rw [pn hi,Dl];rfl,za⟩ zb
theorem network_eq{l:List az}(a:l.length<=1000)(h1:1<=l.length)(h:∀e∈l,e.bh<=e.av):∃y,hZ l=some (y,0)∧jo l=some (y,0):=by
  have c:((l.length:Int)==0)=false:=by simp;intro e;rw [e]at h1;simp at h1
  unfold hZ jo
  rw [c]
  simp only [Cb,if_false]
  have hc:cW l=some false:=by
    unfold cW d6
    have:dE (cX l) (0:Int)=some (.inl ()):=by
      refine Et ?_
      refine FJ l.length za (fun _=>True) trivial (fun i c h1 _=>?_)
      unfold cX gz
      refine FC (fun f=>?_) (fun _=>FH rfl)
      obtain⟨x,u,hm⟩:=Eu (l:=l) c za
      rw [u,zc,zc,if_neg (by have:=h x hm.1;simp;omega),w64 za za]
      exact FB ⟨⟨za,za⟩,trivial⟩ za
    rw [this];rfl
  rw [hc]
  have t:dE (ic l) ((0:Int),[],[])=some (.inl (l.map (·.bh),l.map (·.av))):=by
    refine Et ?_
    refine Ez (fun st=>∃i:Nat,st=((i:Int),(l.take i).map (·.bh),(l.take i).map (·.av))∧i<=l.length) (fun st=>((l.length:Int)-st.1).toNat) ?_ ⟨0,rfl,CG _⟩
    rintro st ⟨i,rfl,i1⟩
    unfold ic
    dsimp only
    refine FC (fun f=>?_) (fun p=>FH (by rw [Fe za]))
    have hi:i<l.length:=by omega
    have r:=h _ (C9 hi)
    simp only [j0 (n:=(i:Int)) rfl hi,zc]
    rw [if_neg so,hP so,zc,hP so,zc,w64 za za]
    exact FB ⟨i+1,by rw [pn hi,Dl,Dl];rfl,za⟩ zb
  rw [t]
  obtain⟨m1,s1,a1,a2,a3,a4⟩:=median_eq (l:=l.map (·.bh)) (by simpa using h1) (by simpa using a)
  obtain⟨m2,s2,b1,b2,g,j⟩:=median_eq (l:=l.map (·.av)) (by simpa using h1) (by simpa using a)
  have q:∀n:Nat,1<=n->n<=1000->qa .i64 (Dt .i64 ((n:Int)-(1:Int))) (2:Int)=some (((n-1) / 2:Nat):Int):=fun n h1 z=>by
    rw [w64 (n:=(n:Int)-1) za za]
    unfold qa
    rw [if_neg (by decide),E6 za,w64 za za]
    congr 1;omega
  rw [DT]at a2 a3 b2 g
  simp only [zc,Cb,if_false,a4,j]
  unfold hJ hM
  have e2:dE (d8 l) ((0:Int),[])=some (l.map (·.bh)):=med_at (·.bh) d8 (fun _ _=>rfl) a
  have k:dE (d9 l) ((0:Int),[])=some (l.map (·.av)):=med_at (·.av) d9 (fun _ _=>rfl) a
  rw [e2,k]
  simp only [zc,a1,b1,a2,b2,q l.length h1 a]
  rw [ql za za,ql za za,oA (l:=s1) za,oA (l:=s2) za,a3,g]
  exact⟨_,rfl,rfl⟩
end Go.Dw.Ss
set_option maxRecDepth 100000
set_option maxHeartbeats 4000000
namespace Go.Dw.Ss
open Go.Dw Go.Proofs
abbrev Sub(r b:ah):Prop:=(r.bh.fX<=b.bh.fX∧b.bh.fX<=b.av.fX∧b.av.fX<=r.av.fX)∧(r.bh.fY<=b.bh.fY∧b.bh.fY<=b.av.fY∧b.av.fY<=r.av.fY)∧(r.bh.fZ<=b.bh.fZ∧b.bh.fZ<=b.av.fZ∧b.av.fZ<=r.av.fZ)
theorem Sub.ok{r b:ah}(a:BoxP r)(h:Sub r b):BoxP b:=by
  obtain⟨⟨g,j,k⟩,⟨g1,g2,g3⟩,s⟩:=a
  obtain⟨h1,c,f⟩:=h
  exact⟨⟨za,za,za⟩,⟨za,za,za⟩,za,za,za⟩
theorem Sub.refl{r:ah}(a:BoxP r):Sub r r:=by
  obtain⟨-, -,s⟩:=a
  exact⟨za,za,za⟩
def nr(b:ah)(p:aa):Int:=ne p.fX b.bh.fX b.av.fX*ne p.fX b.bh.fX b.av.fX+ne p.fY b.bh.fY b.av.fY*ne p.fY b.bh.fY b.av.fY+ne p.fZ b.bh.fZ b.av.fZ*ne p.fZ b.bh.fZ b.av.fZ
def fr(b:ah)(p:aa):Int:=fa p.fX b.bh.fX b.av.fX*fa p.fX b.bh.fX b.av.fX+fa p.fY b.bh.fY b.av.fY*fa p.fY b.bh.fY b.av.fY+fa p.fZ b.bh.fZ b.av.fZ*fa p.fZ b.bh.fZ b.av.fZ
theorem near_val{b:ah}{p:aa}(c:BoxP b)(hp:PosP p):eI b p=some (nr b p)∧iA b p=some (nr b p)∧0<=nr b p∧nr b p<=13194139533312:=by
  unfold eI eD iA nr
  rw [Ep,ja,gC,zc,zc,l6,lI,if_neg (by simp [c]),if_neg (by simp [c]),zc,zc,if_neg (by simp [hp]),if_neg (by simp [hp])]
  obtain⟨⟨z,B,C⟩,⟨g1,g2,g3⟩,s1,s2,s3⟩:=c
  obtain⟨D,E,F⟩:=hp
  obtain⟨g,j,k,l⟩:=near1 (x:=p.fX) (lo:=b.bh.fX) (hi:=b.av.fX) za za za s1
  obtain⟨q,r,t,u⟩:=near1 (x:=p.fY) (lo:=b.bh.fY) (hi:=b.av.fY) za za za s2
  obtain⟨y,z2,z3,z4⟩:=near1 (x:=p.fZ) (lo:=b.bh.fZ) (hi:=b.av.fZ) za za za s3
  have G:=nv ⟨k,l⟩;have H:=nv ⟨t,u⟩;have sz:=nv ⟨z3,z4⟩
  unfold bU dP
  simp only [zc,g,j,q,r,y,z2]
  generalize ne p.fX b.bh.fX b.av.fX=nx at*
  generalize ne p.fY b.bh.fY b.av.fY=a at*
  generalize ne p.fZ b.bh.fZ b.av.fZ=f at*
  rw [w64 (n:=nx*nx) za za,w64 (n:=a*a) za za,w64 (n:=f*f) za za,Ea,w64 (n:=nx*nx) za za,w64 (n:=nx*nx+a*a) za za,w64 za za]
  exact⟨rfl,rfl,za,za⟩
theorem far_val{b:ah}{p:aa}(c:BoxP b)(hp:PosP p):gw b p=some (fr b p)∧jP b p=some (fr b p)∧0<=fr b p∧fr b p<=13194139533312:=by
  unfold gw er jP fr
  rw [Ep,ja,gC,zc,zc,l6,lI,if_neg (by simp [c]),if_neg (by simp [c]),zc,zc,if_neg (by simp [hp]),if_neg (by simp [hp])]
  obtain⟨⟨z,B,C⟩,⟨g1,g2,g3⟩,s1,s2,s3⟩:=c
  obtain⟨D,E,F⟩:=hp
  obtain⟨g,j,k,l⟩:=far1 (x:=p.fX) (lo:=b.bh.fX) (hi:=b.av.fX) za za za
  obtain⟨q,r,t,u⟩:=far1 (x:=p.fY) (lo:=b.bh.fY) (hi:=b.av.fY) za za za
  obtain⟨y,z2,z3,z4⟩:=far1 (x:=p.fZ) (lo:=b.bh.fZ) (hi:=b.av.fZ) za za za
  have G:=nv ⟨k,l⟩;have H:=nv ⟨t,u⟩;have sz:=nv ⟨z3,z4⟩
  unfold bU dP
  simp only [zc,g,j,q,r,y,z2]
  generalize fa p.fX b.bh.fX b.av.fX=nx at*
  generalize fa p.fY b.bh.fY b.av.fY=a at*
  generalize fa p.fZ b.bh.fZ b.av.fZ=f at*
  rw [w64 (n:=nx*nx) za za,w64 (n:=a*a) za za,w64 (n:=f*f) za za,Ea,w64 (n:=nx*nx) za za,w64 (n:=nx*nx+a*a) za za,w64 za za]
  exact⟨rfl,rfl,za,za⟩
theorem mz{a b:Int}(c:0<=a)(h:a<=b):a*a<=b*b:=EW h h c za
theorem fa_mono{x lo hi c a:Int}(h1:lo<=c)(f:c<=a)(g:a<=hi):0<=fa x c a∧fa x c a<=fa x lo hi:=by
  unfold fa;constructor<;>split<;>(try split)<;>omega
theorem ne_fa{x lo hi:Int}(h:lo<=hi):0<=ne x lo hi∧ne x lo hi<=fa x lo hi:=by
  unfold ne fa;constructor<;>split<;>(try split)<;>(try split)<;>omega
theorem fr_mono{r b:ah}(h:Sub r b)(p:aa):fr b p<=fr r p:=by
  obtain⟨⟨a1,a2,a3⟩,⟨b1,b2,a⟩,c,f,g⟩:=h
  obtain⟨j,k⟩:=fa_mono (x:=p.fX) a1 a2 a3
  obtain⟨l,q⟩:=fa_mono (x:=p.fY) b1 b2 a
  obtain⟨z0,t⟩:=fa_mono (x:=p.fZ) c f g
  have:=mz j k;have:=mz l q;have:=mz z0 t
  unfold fr;omega
theorem nr_fr{b:ah}(a:BoxP b)(p:aa):nr b p<=fr b p:=by
  obtain⟨-, -,s1,s2,s3⟩:=a
  obtain⟨c,f⟩:=ne_fa (x:=p.fX) s1
  obtain⟨g,j⟩:=ne_fa (x:=p.fY) s2
  obtain⟨z0,k⟩:=ne_fa (x:=p.fZ) s3
  have:=mz c f;have:=mz g j;have:=mz z0 k
  unfold nr fr;omega
theorem ceil_min{n:Int}(c:0<=n)(h1:n<=70368744177664):∃r,eH n=some r∧0<=r∧n<=r*r∧∀s,0<=s->n<=s*s->r<=s:=by
  obtain⟨x,g,p,a⟩:=oE c h1
  have l:=oY a.2.1 h1
  obtain⟨g0,g1,g2⟩:=a
  have f:0<=x*x:=EX g0 g0
  unfold eH
  rw [g,zc,w64 (n:=x*x) za za,w64 (n:=x+1) za za]
  have lt:∀s,0<=s->x*x<s*s->x<s:=fun s s0 hs=>by
    apply FQ
    intro h
    have:=mz s0 (show s<=x by omega)
    omega
  by_cases h:x*x<n
  · rw [if_pos (by simpa using h)]
    exact⟨_,rfl,za,ES g2,fun s s0 hs=>by have:=lt s s0 za;omega⟩
  · rw [if_neg (by simpa using h)]
    refine⟨_,rfl,g0,za,fun s s0 hs=>?_⟩
    apply FQ
    intro hc
    have j:s*s<=(x-1)*(x-1):=mz s0 za
    have k:(x-1)*(x-1)=x*x-2*x+1:=by rw [Int.sub_mul,Int.mul_sub];omega
    omega
theorem between_err{t:aw}(j:nB t){n f:Int}(x:0<=n)(h1:n<=f)(q:f<=13194139533312):∃r c,ek t n f=some r∧eH f=some c∧(r.2.2=0↔c<=t.bS*((t.bh.length:Int)-1)):=by
  obtain⟨r,g,B⟩:=between_eq t (a:=n) q
  obtain⟨c,k, -⟩:=ceil_min (n:=f) za za
  refine⟨r,c,g,k,?_⟩
  have z:=j.len;have u:=j.step
  have y:0<=t.bS*((t.bh.length:Int)-1)∧t.bS*((t.bh.length:Int)-1)<=1048576*256:=⟨EX za za,EW za za za za⟩
  unfold ek at g
  rcases kz t with⟨p, -, -⟩|⟨-, -,h⟩
  rotate_left
  · exact(h j).elim
  have g1:¬n<0:=by omega
  have g2:¬n>f:=by omega
  unfold lK at g
  rw [p,k]at g
  simp only [zc,bne_self_eq_false,Cb,if_false,g1,g2,decide_false]at g
  rw [w64 (n:=(t.bh.length:Int)-1) za za,w64 (n:=t.bS*((t.bh.length:Int)-1)) za za]at g
  by_cases l:c>t.bS*((t.bh.length:Int)-1)
  · simp only [l,decide_true,if_true]at g
    rw [<-DS g]
    exact⟨fun h=>by simp at h,fun h=>za⟩
  · simp only [l,decide_false,Cb,if_false]at g
    refine⟨fun _=>za,fun _=>?_⟩
    obtain⟨a, -,g⟩:=Option.bind_eq_some_iff.1 g
    obtain⟨a, -,g⟩:=Option.bind_eq_some_iff.1 g
    obtain⟨a, -,g⟩:=Option.bind_eq_some_iff.1 g
    obtain⟨a, -,g⟩:=Option.bind_eq_some_iff.1 g
    obtain⟨a, -,g⟩:=Option.bind_eq_some_iff.1 g
    rw [<-DS g]
structure PhP(q:ai)(a:br):Prop where
  pos:PosP a.bv
  early:0<=a.bV
  late:a.bV<=a.ch∧a.ch<=18014398509481984
  wt:1<=a.d7∧a.d7<=100
  reach:∃r,dK q.bJ q.bk a.bv=some r∧r.2.2=0
structure PVR(q:ai):Prop where
  box:BoxP q.bk
  tab:nB q.bJ
  len:1<=q.bT.length∧q.bT.length<=64
  cap:1<=q.dL∧q.dL<=1099511627776
  all:∀a∈q.bT,PhP q a
theorem oP{t:aw}(g:nB t){b:ah}(f:BoxP b){p:aa}(hp:PosP p):∃r c,dK t b p=some r∧eV t b p=some r∧eH (fr b p)=some c∧(r.2.2=0↔c<=t.bS*((t.bh.length:Int)-1)):=by
  obtain⟨r,a,q, -⟩:=nF g b p
  obtain⟨n1,u,l,x⟩:=near_val f hp
  obtain⟨f1,f2,f3,f4⟩:=far_val f hp
  obtain⟨y,c,b1,b2,j⟩:=between_err g l (nr_fr f p) f4
  refine⟨r,c,a,q,b2,?_⟩
  unfold dK at a
  rcases kz t with⟨k, -, -⟩|⟨-, -,h⟩
  rotate_left
  · exact(h g).elim
  rw [k,ja,l6,decide_eq_true f,decide_eq_true hp]at a
  simp only [zc,bne_self_eq_false,Cb,if_false,FN]at a
  unfold kY at a
  rw [n1,f1]at a
  simp only [zc]at a
  rw [b1,zc]at a
  rw [<-DS a];exact j
theorem zone_eq{q:ai}(g:PVR q){b:ah}(l:Sub q.bk b){a:br}(f:PhP q a):∃z,im q.bJ b a=some (z,0)∧ni q.bJ b a=some (z,0):=by
  have k:=l.ok g.box
  obtain⟨r,c,I,J,K,L⟩:=oP g.tab k f.pos
  obtain⟨T,t,D, -,k3,E⟩:=oP g.tab g.box f.pos
  obtain⟨H,p,F⟩:=f.reach
  rw [D]at p
  obtain rfl:=DS p
  have x:=E.1 F
  have hm:=fr_mono l a.bv
  obtain⟨-, -,f3,f4⟩:=far_val k f.pos
  obtain⟨-, -,g3,g4⟩:=far_val g.box f.pos
  obtain⟨m,m1,m2,m3,m4⟩:=ceil_min (n:=fr b a.bv) f3 za
  obtain⟨N,n1,G,O,Q⟩:=ceil_min (n:=fr q.bk a.bv) g3 za
  rw [K]at m1;obtain rfl:=DS m1
  rw [k3]at n1;obtain rfl:=DS n1
  have y:=m4 t G za
  have B:=L.2 za
  have C:(r.2.2 != 0)=false:=by simp [B]
  have he:=f.early;have j:=f.late;have hw:=f.wt
  unfold im ni
  rcases kz q.bJ with⟨u,e2, -⟩|⟨-, -,h⟩
  rotate_left
  · exact(h g.tab).elim
  have v1:fJ a=some true:=by
    unfold fJ
    rw [l6,decide_eq_true f.pos,zc,if_pos rfl,if_pos (by simpa using he),if_pos (by simpa using j.1),if_pos (by simpa using j.2),if_pos (by simpa using hw.1)]
    simpa using hw.2
  have v2:dX a=some true:=by
    unfold dX
    rw [lI,decide_eq_true f.pos,zc,if_pos rfl,if_pos (by simpa using he),if_pos (by simpa using j.1),if_pos (by simpa using j.2),if_pos (by simpa using hw.1)]
    simpa using hw.2
  rw [u,e2,ja,gC,decide_eq_true k,v1,v2,I,J]
  simp only [zc,bne_self_eq_false,Cb,if_false,FN,C]
  exact⟨_,rfl,rfl⟩
theorem pvalid_eq{q:ai}(c:PVR q):gH q=some 0∧iD q=some 0:=by
  have f:=c.len;have hc:=c.cap
  unfold gH iD
  rcases kz q.bJ with⟨t,e2, -⟩|⟨-, -,h⟩
  rotate_left
  · exact(h c.tab).elim
  rw [ja,gC,decide_eq_true c.box,t,e2]
  have g0:((q.bT.length:Int)==0)=false:=by simp;intro h;rw [h]at f;simp at f
  have g1:¬(q.bT.length:Int)>64:=by omega
  have g2:¬q.dL<1:=by omega
  have g3:¬q.dL>1099511627776:=by omega
  simp only [zc,bne_self_eq_false,Cb,if_false,FN,g0,g1,g2,g3,decide_false]
  have a1:dE (fF q) (0:Int)=some (.inl ()):=by
    refine Et (FJ q.bT.length za (fun _=>True) trivial (fun i g h1 _=>?_))
    unfold fF
    refine FC (fun k=>?_) (fun _=>FH rfl)
    refine Es (Eu g za) (fun a j=>?_)
    obtain⟨z,B, -⟩:=zone_eq c (Sub.refl c.box) (c.all a j.1)
    rw [B,zc,if_neg sm,w64 za za]
    exact FB ⟨⟨za,za⟩,trivial⟩ za
  have a2:dE (gD q) (0:Int)=some (.inl ()):=by
    refine Et (FJ q.bT.length za (fun _=>True) trivial (fun i g h1 _=>?_))
    unfold gD
    refine FC (fun k=>?_) (fun _=>FH rfl)
    obtain⟨a,j,hm, -⟩:=Eu (l:=q.bT) g za
    have hp:=c.all a hm
    have he:=hp.early;have f:=hp.late;have hw:=hp.wt
    have v2:dX a=some true:=by
      unfold dX
      rw [lI,decide_eq_true hp.pos,zc,if_pos rfl,if_pos (by simpa using he),if_pos (by simpa using f.1),if_pos (by simpa using f.2),if_pos (by simpa using hw.1)]
      simpa using hw.2
    obtain⟨r,x,y, -⟩:=nF c.tab q.bk a.bv
    obtain⟨C,p,u⟩:=hp.reach
    rw [x]at p
    obtain rfl:=DS p
    rw [j,zc,v2,zc,if_neg sm,zc,y,zc,if_neg (by simp [u]),w64 za za]
    exact FB ⟨⟨za,za⟩,trivial⟩ za
  rw [a1,a2]
  exact⟨rfl,rfl⟩
theorem within_eq{q:ai}(c:PVR q){b:ah}(g:Sub q.bk b):ju b q.bk=some true∧lF b q.bk=some true:=by
  have a:=g.ok c.box
  obtain⟨h1,k,l⟩:=id g
  have f:∀p:aa,PosP p->(q.bk.bh.fX<=p.fX∧p.fX<=q.bk.av.fX)->(q.bk.bh.fY<=p.fY∧p.fY<=q.bk.av.fY)->(q.bk.bh.fZ<=p.fZ∧p.fZ<=q.bk.av.fZ)->fi q.bk p=some true∧iz q.bk p=some true:=fun p hp r t k3=>by
    have j:nr q.bk p=0:=by
      unfold nr ne
      rw [if_neg za,if_neg za,if_neg za,if_neg za,if_neg za,if_neg za];rfl
    unfold fi iz
    rw [ja,gC,decide_eq_true c.box,l6,decide_eq_true hp,(near_val c.box hp).1,j]
    simp only [zc,if_true]
    rw [if_pos so,if_pos so,if_pos so,if_pos so,if_pos so]
    refine⟨rfl,?_⟩
    simp;omega
  obtain⟨a1,a2⟩:=f b.bh a.1 za za za
  obtain⟨b1,b2⟩:=f b.av a.2.1 za za za
  unfold ju lF
  rw [ja,gC,decide_eq_true a,a1,a2,b1,b2]
  exact⟨rfl,rfl⟩
theorem zones_eq{q:ai}(c:PVR q){b:ah}(k:Sub q.bk b):∃zs,kf q b=some (zs,0)∧lr q b=some (zs,0)∧zs.length=q.bT.length:=by
  obtain⟨v1,v2⟩:=pvalid_eq c
  obtain⟨t,u⟩:=within_eq c k
  have hlen:=c.len
  have key:∀d i:Nat,i+d=q.bT.length->∀out:List bw,out.length=i->∃zs,dE (eS q b) ((i:Int),out)=some (.inl zs)∧dE (ff q b) ((i:Int),out)=some zs∧zs.length=q.bT.length:=by
    intro d
    induction d with
    |zero=>
      intro i hi out ho
      refine⟨out,o0 ?_,o0 ?_,za⟩
      · unfold eS;dsimp only;rw [if_neg so]
      · unfold ff;dsimp only;rw [if_neg so]
    |succ d r=>
      intro i hi out ho
      have a:i<q.bT.length:=by omega
      obtain⟨z,x,z2⟩:=zone_eq c k (c.all _ (C9 a))
      have j:pG out [z] 16=some (out++[z]):=by unfold pG;rw [if_pos (by simp only [CT,CU];omega)]
      have p:eS q b ((i:Int),out)=some (.next (((i+1:Nat):Int),out++[z])):=by
        unfold eS;dsimp only
        rw [if_pos so,j0 rfl a,zc,x,zc,if_neg sm,j,zc,w64 za za];rfl
      have e2:ff q b ((i:Int),out)=some (.next (((i+1:Nat):Int),out++[z])):=by
        unfold ff;dsimp only
        rw [if_pos so,j0 rfl a,zc,z2,zc,j,zc,w64 za za];rfl
      obtain⟨zs,f,g,k3⟩:=r (i+1) za (out++[z]) so
      exact⟨zs,by rw [pe p,f],by rw [pe e2,g],k3⟩
  obtain⟨zs,f,g,k3⟩:=key q.bT.length 0 za [] rfl
  have l:((0:Nat):Int)=0:=rfl
  rw [l]at f g
  refine⟨zs,?_,?_,k3⟩
  · unfold kf m5
    have hm:xH (0:Int) (q.bT.length:Int) (bw.mk 0 0) 16=some []:=by
      unfold xH
      rw [if_pos za];rfl
    rw [v1,t,hm]
    simp only [zc,bne_self_eq_false,Cb,if_false,FN,f]
  · unfold lr
    rw [v2,u]
    simp only [zc,bne_self_eq_false,Cb,if_false,FN,g]
end Go.Dw.Ss
set_option maxRecDepth 100000
set_option maxHeartbeats 4000000
namespace Go.Dw.Ss
open Go.Dw Go.Proofs
theorem res_eq(z:bw)(t:Int):∃r,jx z t=some r∧kl z t=some r:=by
  unfold jx kl
  generalize Dt .i64 (t-z.fTo)=A
  generalize Dt .i64 (z.b8-t)=B
  refine⟨_,rfl,congrArg some ?_⟩
  split<;>split<;>(try split)<;>(try split)<;>omega
theorem cost_eq{q:ai}{zs:List bw}(y:zs.length=q.bT.length)(k:zs.length<=1000)(t:Int):∃r,iq q zs t=some r∧iC q zs t=some r:=by
  have key:∀d i:Nat,i+d=zs.length->∀s:Int,∃r,dE (fe q zs t) (s,(i:Int))=some r∧dE (gZ zs q t) (s,(i:Int))=some r:=by
    intro d
    induction d with
    |zero=>
      intro i hi s
      refine⟨s,o0 ?_,o0 ?_⟩
      · unfold fe;dsimp only;rw [if_neg so]
      · unfold gZ;dsimp only;rw [if_neg so]
    |succ d l=>
      intro i hi s
      have h1:i<zs.length:=by omega
      have f:i<q.bT.length:=by omega
      obtain⟨x,p,u⟩:=res_eq zs[i] t
      have j:fe q zs t (s,(i:Int))=some (.next ((Dt .i64 (s+(Dt .i64 (q.bT[i].d7*(if x<q.dL then x else q.dL))))),((i+1:Nat):Int))):=by
        unfold fe;dsimp only
        rw [if_pos so,j0 rfl f,zc,if_pos so,j0 rfl h1,zc,p,zc,w64 (n:=(i:Int)+1) za za];rfl
      have e2:gZ zs q t (s,(i:Int))=some (.next ((Dt .i64 (s+(Dt .i64 (q.bT[i].d7*(if x<q.dL then x else q.dL))))),((i+1:Nat):Int))):=by
        unfold gZ;dsimp only
        rw [if_pos so,j0 rfl f,zc,j0 rfl h1,zc,u,zc,w64 (n:=(i:Int)+1) za za];rfl
      obtain⟨r,a,c⟩:=l (i+1) za (Dt .i64 (s+(Dt .i64 (q.bT[i].d7*(if x<q.dL then x else q.dL)))))
      exact⟨r,by rw [pe j,a],by rw [pe e2,c]⟩
  obtain⟨r,a,c⟩:=key zs.length 0 za 0
  have g:((0:Nat):Int)=0:=rfl
  rw [g]at a c
  unfold iq iC
  exact⟨r,by rw [a];rfl,by rw [c];rfl⟩
def fM(zs:List bw):List Int:=zs.flatMap fun z=>[z.b8,z.fTo]
theorem oM(zs:List bw):(fM zs).length=2*zs.length:=by
  induction zs with
  |nil=>rfl
  |cons z zs a=>simp only [fM,List.flatMap_cons,DA,CT,CU]at*;omega
theorem endsL_get(zs:List bw)(i:Nat)(h:i<zs.length):(fM zs)[2*i]? =some zs[i].b8∧(fM zs)[2*i+1]? =some zs[i].fTo:=by
  induction zs generalizing i with
  |nil=>simp at h
  |cons z zs c=>
    cases i with
    |zero=>exact⟨rfl,rfl⟩
    |succ i=>
      have hi:i<zs.length:=by simpa using h
      obtain⟨a,b⟩:=c i hi
      have e:fM (z::zs)=z.b8::z.fTo::fM zs:=rfl
      rw [e,show 2*(i+1)=2*i+1+1 by omega,show 2*i+1+1+1=(2*i+1)+1+1 by omega,CO,CO,CO,CO]
      exact⟨a,b⟩
def il(c:Int->Int)(s:Int×Int)(t:Int):Int×Int:=if c t<s.2 then(t,c t)else if c t=s.2 then(if t<s.1 then(t,c t)else s)else s
theorem best_eq{q:ai}{zs:List bw}(L:zs.length=q.bT.length)(J:1<=zs.length)(z:zs.length<=1000):∃r,ll q zs=some r∧mc q zs=some r:=by
  have B:∀t,∃r,iq q zs t=some r∧iC q zs t=some r:=fun t=>cost_eq L z t
  have N:zs≠ []:=by intro e;subst e;simp at J
  let c:Int->Int:=fun t=>(B t).choose
  have p:∀t,iq q zs t=some (c t):=fun t=>(B t).choose_spec.1
  have a:∀t,iC q zs t=some (c t):=fun t=>(B t).choose_spec.2
  clear_value c
  have F:=oM zs
  have X:∀d i:Nat,i+d=zs.length->∀o:List Int,o=fM (zs.take i)->dE (fT zs) ((i:Int),o)=some (fM zs):=by
    intro d
    induction d with
    |zero=>
      intro i hi o ho
      rw [ho,show i=zs.length by omega,Ek]
      apply o0
      unfold fT;dsimp only;rw [if_neg sm]
    |succ d x=>
      intro i hi o ho
      have h1:i<zs.length:=by omega
      have O:o.length<=2000:=by rw [ho,oM,Cp];omega
      have j:fT zs ((i:Int),o)=some (.next (((i+1:Nat):Int),o++[zs[i].b8,zs[i].fTo])):=by
        unfold fT;dsimp only
        have K:pG o [zs[i].b8,zs[i].fTo] 8=some (o++[zs[i].b8,zs[i].fTo]):=by unfold pG;rw [if_pos (by simp only [CT,CU];omega)]
        rw [if_pos so,j0 rfl h1,zc,K,zc,w64 za za];rfl
      rw [pe j]
      refine x (i+1) za _ ?_
      rw [ho,pn h1]
      unfold fM
      rw [List.flatMap_append];rfl
  have y:=X zs.length 0 za [] (by simp [fM])
  have T:∀d i:Nat,i+d=2*zs.length-1->∀s:Int×Int,dE (fd ((2*zs.length-1:Nat):Int) (fM zs) q zs) (s.1,s.2,(i:Int))=some (((fM zs).drop (i+1)).foldl (il c) s):=by
    intro d
    induction d with
    |zero=>
      intro i hi s
      rw [F0 za]
      apply o0
      unfold fd;dsimp only;rw [if_neg so];rfl
    |succ d x=>
      intro i hi s
      have u:i+1<(fM zs).length:=by omega
      have j:fd ((2*zs.length-1:Nat):Int) (fM zs) q zs (s.1,s.2,(i:Int))=some (.next ((il c s (fM zs)[i+1]).1,(il c s (fM zs)[i+1]).2,((i+1:Nat):Int))):=by
        unfold fd;dsimp only
        rw [if_pos so,zG za so sm,zc,j0 (i:=i+1) so u,zc,p,zc,w64 (n:=(i:Int)+1) za za]
        unfold il
        by_cases g1:c (fM zs)[i+1]<s.2
        · rw [if_pos (by simpa using g1),if_pos g1];rfl
        · rw [if_neg (by simpa using g1),if_neg g1]
          by_cases g2:c (fM zs)[i+1]=s.2
          · rw [if_pos (by simpa using g2),if_pos g2]
            by_cases g3:(fM zs)[i+1]<s.1
            · rw [if_pos (by simpa using g3),if_pos g3];rfl
            · rw [if_neg (by simpa using g3),if_neg g3];rfl
          · rw [if_neg (by simpa using g2),if_neg g2];rfl
      rw [pe j,x (i+1) za,Eb u,F2]
  have W:∀d i:Nat,i+d=zs.length->∀s:Int×Int,dE (f9 zs q) (s.1,s.2,(i:Int))=some (((fM zs).drop (2*i)).foldl (il c) s):=by
    intro d
    induction d with
    |zero=>
      intro i hi s
      rw [F0 za]
      apply o0
      unfold f9;dsimp only;rw [if_neg so];rfl
    |succ d x=>
      intro i hi s
      have h1:i<zs.length:=by omega
      obtain⟨g0,g1⟩:=endsL_get zs i h1
      obtain⟨H,g⟩:=List.getElem?_eq_some_iff.1 g0
      obtain⟨Y,p3⟩:=List.getElem?_eq_some_iff.1 g1
      have E:∀s:Int×Int,f8 q zs zs[i] i s.1 s.2=some (.next ((il c s zs[i].fTo).1,(il c s zs[i].fTo).2,((i+1:Nat):Int))):=fun s=>by
        unfold f8 iB il
        rw [a,zc,w64 (n:=(i:Int)+1) za za]
        by_cases g1:c zs[i].fTo<s.2
        · rw [if_pos (by simpa using g1),if_pos g1];rfl
        · rw [if_neg (by simpa using g1),if_neg g1]
          by_cases g2:c zs[i].fTo=s.2
          · rw [if_pos (by simpa using g2),if_pos g2]
            by_cases g3:zs[i].fTo<s.1
            · rw [if_pos (by simpa using g3),if_pos g3];rfl
            · rw [if_neg (by simpa using g3),if_neg g3];rfl
          · rw [if_neg (by simpa using g2),if_neg g2];rfl
      have j:f9 zs q (s.1,s.2,(i:Int))=some (.next ((il c (il c s zs[i].b8) zs[i].fTo).1,(il c (il c s zs[i].b8) zs[i].fTo).2,((i+1:Nat):Int))):=by
        unfold f9;dsimp only
        rw [if_pos so,j0 rfl h1,zc,zc,a,zc, <-E]
        unfold il
        by_cases g1:c zs[i].b8<s.2
        · rw [if_pos (by simpa using g1),if_pos g1]
        · rw [if_neg (by simpa using g1),if_neg g1]
          by_cases g2:c zs[i].b8=s.2
          · rw [if_pos (by simpa using g2),if_pos g2]
            by_cases g3:zs[i].b8<s.1
            · rw [if_pos (by simpa using g3),if_pos g3]
            · rw [if_neg (by simpa using g3),if_neg g3]
          · rw [if_neg (by simpa using g2),if_neg g2]
      rw [pe j,x (i+1) za,Eb H,F2,Eb Y,F2,g,p3,show 2*(i+1)=2*i+1+1 by omega]
  have k:0<(fM zs).length:=by omega
  obtain⟨z0, -⟩:=endsL_get zs 0 za
  obtain⟨H,g⟩:=List.getElem?_eq_some_iff.1 z0
  have g:(fM zs)[0]=zs[0].b8:=g
  have f:il c (zs[0].b8,c zs[0].b8) zs[0].b8=(zs[0].b8,c zs[0].b8):=by
    unfold il
    rw [if_neg sm,if_pos rfl,if_neg sm]
  have G:=T (2*zs.length-1) 0 za (zs[0].b8,c zs[0].b8)
  have C:=W zs.length 0 za (zs[0].b8,c zs[0].b8)
  rw [Nat.mul_zero,ED, <-ED (l:=fM zs),Eb k,F2,g,f]at C
  have I:((0:Nat):Int)=0:=rfl
  rw [I]at G C y
  refine⟨((fM zs).drop (0+1)).foldl (il c) (zs[0].b8,c zs[0].b8),?_,?_⟩
  · unfold ll
    have hm:xH (0:Int) (Dt .i64 ((2:Int)*(zs.length:Int))) (0:Int) 8=some []:=by
      rw [w64 za za]
      unfold xH
      rw [if_pos za];rfl
    have g0:(((fM zs).length:Int)==0)=false:=by rw [F];simp;exact N
    rw [hm,zc,y,zc,g0]
    simp only [Cb,if_false]
    have D:pb (fM zs) 0=some zs[0].b8:=by rw [j0 (n:=0) (i:=0) sm k,g]
    rw [ql za za]
    simp only [zc,D,p]
    rw [tl za za za,zc,Bx so sm,zc]
    have Q:(((0+((((fM zs).length:Int):Int)).toNat:Nat):Int)-((0+(1:Int).toNat:Nat):Int))=((2*zs.length-1:Nat):Int):=by rw [F];simp;omega
    rw [Q,G,zc]
  · unfold mc
    have D:pb zs 0=some zs[0]:=j0 (n:=0) (i:=0) sm za
    simp only [D,zc,a]
    rw [C,zc]
theorem mbound_eq{q:ai}(a:PVR q){b:ah}(f:Sub q.bk b):∃c,iP q b=some (c,0)∧gm q b=some (c,0):=by
  obtain⟨zs,k,z2,z3⟩:=zones_eq a f
  have l:=a.len
  obtain⟨r,g,j⟩:=best_eq (q:=q) (zs:=zs) z3 za za
  unfold iP gm
  rw [k,z2]
  simp only [zc,bne_self_eq_false,Cb,if_false,g,j]
  exact⟨_,rfl,rfl⟩
theorem mat_eq{q:ai}(a:PVR q){p:aa}(f:Sub q.bk ⟨p,p⟩):∃t c,mQ q p=some (t,c,0)∧oW q p=some (t,c,0):=by
  obtain⟨zs,k,z2,z3⟩:=zones_eq a f
  have l:=a.len
  obtain⟨r,g,j⟩:=best_eq (q:=q) (zs:=zs) z3 za za
  unfold mQ oW ref26_One
  rw [zc,k,z2]
  simp only [zc,bne_self_eq_false,Cb,if_false,g,j]
  exact⟨_,_,rfl,rfl⟩
end Go.Dw.Ss
set_option maxRecDepth 100000
set_option maxHeartbeats 4000000
namespace Go.Dw.Ss
open Go.Dw Go.Proofs
theorem or_some(l:List Int)(a:l.length<1000):∃r,dB l=some r:=by
  unfold dB
  have:=Sd.or_go (l:=l) (n:=0) (r:=l) a za sm
  rw [show((0:Int))=((0:Nat):Int)from rfl,this]
  cases l.find? fun x=>decide (x≠0)<;>exact⟨_,rfl⟩
abbrev Item:=ap
theorem less_ok{d:List Item}{i j:Int}(hi:0<=i∧i<d.length)(c:0<=j∧j<d.length):Ok (ir d i j) (fun _=>True):=by
  unfold ir
  refine Es (Eu hi.1 hi.2) (fun a _=>?_)
  refine Es (Eu c.1 c.2) (fun b _=>?_)
  rw [Sd.ml,zc]
  refine Es (Eu hi.1 hi.2) (fun f _=>?_)
  refine Es (Eu c.1 c.2) (fun b' _=>?_)
  rw [Sd.ml,zc]
  obtain⟨r,e⟩:=or_some [rU a.bY b.bY,rU f.jZ b'.jZ] sm
  rw [e]
  exact FF trivial
theorem swap_ok{d:List Item}{i j:Int}(hi:0<=i∧i<d.length)(c:0<=j∧j<d.length):
    Ok (iu i j d) (fun r=>r.Perm d∧(r[j.toNat]? =d[i.toNat]?)∧∀k:Nat,k≠i.toNat->k≠j.toNat->r[k]? =d[k]?):=by
  unfold iu
  refine Es (FI c.1 c.2) (fun _ _=>Es (Eu c.1 c.2) (fun a g=>?_))
  refine Es (FI hi.1 hi.2) (fun _ _=>Es (Eu hi.1 hi.2) (fun b l=>?_))
  refine Es (FI hi.1 hi.2) (fun _ _=>Es (FG hi.1 hi.2) (fun e he=>?_))
  subst he
  refine Es (FI c.1 (by simpa using c.2)) (fun _ _=>Es (FG c.1 (by simpa using c.2)) (fun e he=>?_))
  subst he
  have h1:i.toNat<d.length:=by omega
  have f:j.toNat<d.length:=by omega
  obtain⟨_,rfl⟩:=List.getElem?_eq_some_iff.1 g.2
  obtain⟨_,rfl⟩:=List.getElem?_eq_some_iff.1 l.2
  refine FF ⟨Fa h1 f,?_,fun k p q=>?_⟩
  · rw [CS (by simpa using f),zd h1]
  · rw [CR (Ne.symm q),CR (Ne.symm p)]
theorem up_ok{q:ai}{a b:Int}{f:Bool}{l:al}{d:List Item}{j:Int}(g:0<=j∧j<d.length)(p:d.length<=20000):Ok (mZ j q a b f l d) (fun r=>r.Perm d):=by
  unfold mZ
  refine Es (P:=fun o:List Item=>o.Perm d) (Ez (fun s:Int×List Item=>(0<=s.1∧s.1<d.length)∧s.2.Perm d) (fun s=>s.1.toNat) ?_ ⟨g,List.Perm.refl _⟩) (fun o ho=>FF ho)
  rintro⟨s1,s2⟩ ⟨⟨i0,i1⟩,i2⟩
  simp only at i0 i1 i2
  have hlen:s2.length=d.length:=i2.length_eq
  unfold mo
  dsimp only
  rw [w64 (n:=s1-1) za za]
  have e:qa .i64 (s1-1) 2=some (if s1=0 then 0 else(s1-1) / 2):=by
    unfold qa
    rw [if_neg za]
    split
    · rename_i h;subst h;rfl
    · rw [E6 za,w64 za za]
  rw [e,zc]
  refine FD (fun _=>by rw [zc];exact FH i2) (fun c=>?_)
  have hp:s1≠0:=fun h=>c (by rw [if_pos h,h])
  rw [if_neg hp]
  refine Es (less_ok za za) (fun x _=>?_)
  refine FU (fun _=>by rw [zc];exact FH i2) (fun _=>?_)
  exact Es (swap_ok za za) (fun y k=>FB ⟨⟨zb,zb⟩,k.1.trans i2⟩ zb)
def leI(a b:Item):Prop:=a.bY<b.bY∨(a.bY=b.bY∧a.jZ<=b.jZ)
instance (a b:Item):Decidable (leI a b):=by unfold leI;exact inferInstance
theorem mP(a:Item):leI a a:=by unfold leI;omega
theorem n5{a b c:Item}(h:leI a b)(f:leI b c):leI a c:=by unfold leI at*;omega
theorem leI_total{a b:Item}(h:¬leI a b):leI b a:=by unfold leI at*;omega
def it0:Item:=⟨⟨⟨0,0,0⟩,⟨0,0,0⟩⟩,0,0⟩
def at_(d:List Item)(i:Nat):Item:=d.getD i it0
theorem mY{d:List Item}{i:Nat}{x:Item}(h:d[i]? =some x):at_ d i=x:=by
  unfold at_;rw [D7,h];rfl
theorem cmp_or2(a b:Int):dB [a,b]=some (if a≠0 then a else b):=by
  unfold dB
  rw [show((0:Int))=((0:Nat):Int)from rfl,Sd.or_go (l:=[a,b]) (n:=0) (r:=[a,b]) sm za sm]
  by_cases h1:a=0
  · by_cases c:b=0
    · simp [h1,c]
    · simp [h1,c]
  · simp [h1]
theorem less_at{d:List Item}{i j:Int}(hi:0<=i∧i<d.length)(c:0<=j∧j<d.length):ir d i j=some (decide (¬leI (at_ d j.toNat) (at_ d i.toNat))):=by
  refine Et ?_
  unfold ir
  refine Es (Eu hi.1 hi.2) (fun a k=>?_)
  refine Es (Eu c.1 c.2) (fun b l=>?_)
  rw [Sd.ml,zc]
  refine Es (Eu hi.1 hi.2) (fun p f=>?_)
  refine Es (Eu c.1 c.2) (fun b' g=>?_)
  rw [Sd.ml,zc]
  obtain rfl:p=a:=DS (f.2.symm.trans k.2)
  obtain rfl:b'=b:=DS (g.2.symm.trans l.2)
  rw [cmp_or2,mY k.2,mY l.2]
  refine FF ?_
  rw [decide_eq_decide]
  unfold leI rU
  split<;>split<;>(try split)<;>(try split)<;>omega
theorem swap_at{d:List Item}{i j:Int}(hi:0<=i∧i<d.length)(c:0<=j∧j<d.length):
    Ok (iu i j d) (fun r=>r.Perm d∧∀k:Nat,at_ r k=if k=j.toNat then at_ d i.toNat else if k=i.toNat then at_ d j.toNat else at_ d k):=by
  unfold iu
  refine Es (FI c.1 c.2) (fun _ _=>Es (Eu c.1 c.2) (fun a g=>?_))
  refine Es (FI hi.1 hi.2) (fun _ _=>Es (Eu hi.1 hi.2) (fun b l=>?_))
  refine Es (FI hi.1 hi.2) (fun _ _=>Es (FG hi.1 hi.2) (fun e he=>?_))
  subst he
  refine Es (FI c.1 (by simpa using c.2)) (fun _ _=>Es (FG c.1 (by simpa using c.2)) (fun e he=>?_))
  subst he
  have h1:i.toNat<d.length:=by omega
  have p:j.toNat<d.length:=by omega
  have q:=mY g.2
  have t:=mY l.2
  obtain⟨_,rfl⟩:=List.getElem?_eq_some_iff.1 g.2
  obtain⟨_,rfl⟩:=List.getElem?_eq_some_iff.1 l.2
  refine FF ⟨Fa h1 p,fun k=>?_⟩
  split
  · rename_i hk;subst hk
    rw [t];exact mY (by rw [CS (by simpa using p)])
  · rename_i hk
    split
    · rename_i f;subst f
      rw [q];exact mY (by rw [CR (Ne.symm hk),CS h1])
    · rename_i f
      unfold at_
      rw [D7,D7,CR (Ne.symm hk),CR (Ne.symm f)]
def Heap(d:List Item)(n:Nat):Prop:=∀i,0<i->i<n->leI (at_ d ((i-1) / 2)) (at_ d i)
theorem Heap.root{d:List Item}{n:Nat}(h:Heap d n):∀i,i<n->leI (at_ d 0) (at_ d i):=by
  intro i
  induction i using Nat.strongRecOn with
  |_ i c=>
    intro hi
    by_cases a:i=0
    · subst a;exact mP _
    · exact n5 (c ((i-1) / 2) za za) (h i za hi)
theorem up_heap{q:ai}{a b:Int}{f:Bool}{l:al}{d:List Item}{j:Int}(I:0<=j∧j<d.length)(K:d.length<=20000)
    (h1:∀i,0<i->i<d.length->i≠j.toNat->leI (at_ d ((i-1) / 2)) (at_ d i)) (H:∀c,0<j.toNat->c<d.length->0<c->(c-1) / 2=j.toNat->leI (at_ d ((j.toNat-1) / 2)) (at_ d c)):
    Ok (mZ j q a b f l d) (fun r=>r.Perm d∧Heap r d.length):=by
  unfold mZ
  refine Es (P:=fun o:List Item=>o.Perm d∧Heap o d.length) (Ez (fun s:Int×List Item=>(0<=s.1∧s.1<d.length)∧s.2.Perm d∧(∀i,0<i->i<d.length->i≠s.1.toNat->leI (at_ s.2 ((i-1) / 2)) (at_ s.2 i))∧(∀c,0<s.1.toNat->c<d.length->0<c->(c-1) / 2=s.1.toNat->leI (at_ s.2 ((s.1.toNat-1) / 2)) (at_ s.2 c))) (fun s=>s.1.toNat) ?_ ⟨I,List.Perm.refl _,h1,H⟩) (fun o ho=>FF ho)
  rintro⟨s1,s2⟩ ⟨⟨i0,i1⟩,i2,i3,i4⟩
  simp only at i0 i1 i2 i3 i4
  have hlen:s2.length=d.length:=i2.length_eq
  unfold mo
  dsimp only
  rw [w64 (n:=s1-1) za za]
  have e:qa .i64 (s1-1) 2=some (if s1=0 then 0 else(s1-1) / 2):=by
    unfold qa
    rw [if_neg za]
    split
    · rename_i h;subst h;rfl
    · rw [E6 za,w64 za za]
  rw [e,zc]
  refine FD (fun he=>?_) (fun E=>?_)
  · rw [zc]
    refine FH ⟨i2,fun i k hi=>i3 i k hi ?_⟩
    split at he<;>omega
  have hp:s1≠0:=fun h=>E (by rw [if_pos h,h])
  rw [if_neg hp]
  have g:((s1-1) / 2).toNat=(s1.toNat-1) / 2:=by omega
  rw [less_at za za,zc]
  refine FU (fun hf=>?_) (fun z=>?_)
  · rw [zc]
    refine FH ⟨i2,fun i k hi=>?_⟩
    by_cases h:i=s1.toNat
    · subst h
      rw [<-g]
      simpa using hf
    · exact i3 i k hi h
  · have z:¬leI (at_ s2 ((s1-1) / 2).toNat) (at_ s2 s1.toNat):=by simpa using z
    have hle:=leI_total z
    rw [g]at hle
    refine Es (swap_at za za) (fun y⟨J,C⟩=>FB ⟨⟨zb,zb⟩,J.trans i2,?_,?_⟩ zb)
    · simp only
      intro i k hi t
      rw [g]at t
      rw [C,C,g]
      by_cases p:i=s1.toNat
      · subst p
        rw [if_pos rfl,if_neg za,if_pos rfl];exact hle
      · rw [if_neg p,if_neg t]
        by_cases hc:(i-1) / 2=s1.toNat
        · rw [if_pos hc]
          exact i4 i za hi k hc
        · rw [if_neg hc]
          by_cases u:(i-1) / 2=(s1.toNat-1) / 2
          · rw [if_pos u]
            have:=i3 i k hi p
            rw [u]at this
            exact n5 hle this
          · rw [if_neg u];exact i3 i k hi p
    · simp only
      intro c k hc D B
      rw [g]at k B⊢
      rw [C,C,if_neg za,if_neg (by rw [g];omega),g]
      have F:=i3 ((s1.toNat-1) / 2) za za za
      by_cases x:c=s1.toNat
      · rw [if_pos x];exact F
      · rw [if_neg x,if_neg za]
        have G:=i3 c D hc x
        rw [B]at G
        exact n5 F G
theorem down_heap{q:ai}{a b:Int}{f:Bool}{l:al}{d:List Item}{n:Int}(H:0<=n∧n<d.length)(L:d.length<=20000)(h1:∀c,0<c->c<n.toNat->(c-1) / 2≠0->leI (at_ d ((c-1) / 2)) (at_ d c)):
    Ok (lP 0 n q a b f l d) (fun r=>(r.2.Perm d∧at_ r.2 n.toNat=at_ d n.toNat)∧Heap r.2 n.toNat):=by
  unfold lP
  let I:Int×List Item->Prop:=fun s=>(0<=s.1∧s.1<=n)∧(s.2.Perm d∧at_ s.2 n.toNat=at_ d n.toNat)∧(∀c,0<c->c<n.toNat->(c-1) / 2≠s.1.toNat->leI (at_ s.2 ((c-1) / 2)) (at_ s.2 c))∧(∀c,0<s.1.toNat->0<c->c<n.toNat->(c-1) / 2=s.1.toNat->leI (at_ s.2 ((s.1.toNat-1) / 2)) (at_ s.2 c))
  let Q:Int×List Item->Prop:=fun o=>(o.2.Perm d∧at_ o.2 n.toNat=at_ d n.toNat)∧Heap o.2 n.toNat
  refine Es (P:=Q) (Ez I (fun s=>(n-s.1).toNat) ?_ ⟨⟨sm,H.1⟩,⟨List.Perm.refl _,rfl⟩,fun c k hc hp=>h1 c k hc hp,fun c k=>by simp at k⟩) (fun o ho=>FF ho)
  rintro⟨s1,s2⟩ ⟨⟨i0,i1⟩,⟨i2,i3⟩,i4,i5⟩
  simp only at i0 i1 i2 i3 i4 i5
  have hlen:s2.length=d.length:=i2.length_eq
  unfold mE
  dsimp only
  rw [w64 (n:=2*s1) za za,w64 (n:=2*s1+1) za za,w64 (n:=2*s1+1+1) za za]
  refine FC (fun F=>FH ⟨⟨i2,i3⟩,fun c k hc=>i4 c k hc za⟩) (fun D=>FC (fun _=>za) (fun _=>?_))
  have K:∀j:Int,(j=2*s1+1∨j=2*s1+2)->j<n->(∀c,0<c->c<n.toNat->(c-1) / 2=s1.toNat->leI (at_ s2 j.toNat) (at_ s2 c))->Ok (eJ s2 s1 j) (Ok.S I (fun s=>(n-s.1).toNat) Q (s1,s2)):=fun j N G u=>by
    unfold eJ
    rw [less_at za za,zc]
    refine FU (fun hf=>FH ⟨⟨i2,i3⟩,fun c k hc=>?_⟩) (fun p=>?_)
    · have hf:leI (at_ s2 s1.toNat) (at_ s2 j.toNat):=by simpa using hf
      by_cases g:(c-1) / 2=s1.toNat
      · rw [g];exact n5 hf (u c k hc g)
      · exact i4 c k hc g
    · have p:¬leI (at_ s2 s1.toNat) (at_ s2 j.toNat):=by simpa using p
      have hle:=leI_total p
      refine Es (swap_at za za) (fun y⟨J,B⟩=>FB ⟨⟨zb,zb⟩,⟨J.trans i2,?_⟩,?_,?_⟩ zb)
      · simp only
        rw [B,if_neg za,if_neg za];exact i3
      · simp only
        intro c k hc g
        rw [B,B]
        by_cases z:c=j.toNat
        · rw [if_pos z,if_neg za,if_pos za];exact hle
        rw [if_neg z,if_neg g]
        by_cases t:(c-1) / 2=s1.toNat
        · rw [if_pos t,if_neg za];exact u c k hc t
        rw [if_neg t]
        by_cases x:c=s1.toNat
        · rw [if_pos x]
          have:=i5 j.toNat za za za za
          rw [x];exact this
        · rw [if_neg x];exact i4 c k hc t
      · simp only
        intro c k C hc g
        rw [B,B,if_neg za,if_pos za,if_neg za,if_neg za]
        have:=i4 c C hc za
        rw [g]at this;exact this
  have two:∀c,0<c->(c-1) / 2=s1.toNat->c=(2*s1+1).toNat∨c=(2*s1+1+1).toNat:=fun c k hc=>by omega
  refine FC (fun E => ?_) (fun E => K _ (.inl rfl) za (fun c k hc g => by
    rcases two c k g with h|h
    · rw [h];exact mP _
    · omega))
  rw [less_at za za,zc]
  refine Ew (fun p=>?_) (fun hf=>?_)
  · have p:¬leI (at_ s2 (2*s1+1).toNat) (at_ s2 (2*s1+1+1).toNat):=by simpa using p
    exact K _ (.inr za) za (fun c k hc g => by
      rcases two c k g with h|h
      · rw [h];exact leI_total p
      · rw [h];exact mP _)
  · have hf:leI (at_ s2 (2*s1+1).toNat) (at_ s2 (2*s1+1+1).toNat):=by simpa using hf
    exact K _ (.inl rfl) za (fun c k hc g => by
      rcases two c k g with h|h
      · rw [h];exact mP _
      · rw [h];exact hf)
theorem at_take{d:List Item}{n i:Nat}(h:i<n):at_ (d.take n) i=at_ d i:=by
  unfold at_
  rw [D7,D7,List.getElem?_take,if_pos h]
theorem pop_heap{q:ai}{a b:Int}{f:Bool}{l:al}{x:Item}{d:List Item}(E:(x::d).length<=20000)(F:Heap (x::d) (d.length+1)):Ok (lW q a b f l (x::d)) (fun r=>r.2.Perm d∧Heap r.2 d.length):=by
  have hlen:((x::d).length:Int)=d.length+1:=by simp
  simp only [CT]at E
  unfold lW gR
  rw [zc]
  rw [hlen,w64 (n:=(d.length:Int)+1-1) za za]
  refine Es (swap_at za za) (fun y⟨t,p⟩=>?_)
  have H:y.length=d.length+1:=by have:=t.length_eq;simpa using this
  have j:((d.length:Int)+1-1).toNat=d.length:=by omega
  refine Es (down_heap za za (fun c k hc hp=>?_)) (fun z⟨⟨u,z2⟩,z3⟩=>?_)
  · rw [j]at hc
    rw [p,p,j,if_neg za,if_neg (by simpa using hp),if_neg za,if_neg so]
    exact F c k za
  have I:z.2.length=d.length+1:=by rw [u.length_eq,H]
  unfold oa
  rw [I,w64 (n:=((d.length+1:Nat):Int)-1) za za]
  refine Es (P:=fun r:Item×List Item=>r.2.Perm d∧Heap r.2 d.length) ?_ (fun r G=>FF G)
  refine Es (FI za za) (fun _ _=>Es (Eu za za) (fun w _=>?_))
  refine Es (Ok.sub za za za) (fun _ _=>FF ?_)
  simp only
  rw [show(((d.length+1:Nat):Int)-1).toNat=d.length by omega]
  rw [j]at z2 z3
  have e:at_ z.2 d.length=x:=by
    rw [z2,p,j,if_pos rfl];rfl
  have g:d.length<z.2.length:=by omega
  have e:z.2[d.length]=x:=by rw [<-mY (zd g)];exact e
  have B:z.2=z.2.take d.length++[x]:=by
    conv=>lhs;rw [<-Fb d.length z.2]
    rw [Eb g,e,F0 za]
  have C:(z.2.take d.length++[x]).Perm (x::d):=by rw [<-B];exact u.trans t
  have D:(x::z.2.take d.length).Perm (x::d):=(F7 (l₁:=[x])).trans C
  refine⟨(F8 x).1 D,fun i k hi=>?_⟩
  rw [at_take za,at_take hi]
  exact z3 i k hi
theorem at_snoc{d:List Item}{x:Item}{i:Nat}(h:i<d.length):at_ (d++[x]) i=at_ d i:=by
  unfold at_
  rw [D7,D7,List.getElem?_append_left h]
theorem push_heap{q:ai}{a b:Int}{f:Bool}{l:al}{x:Item}{d:List Item}(D:d.length<=10000)(u:Heap d d.length):Ok (jJ x q a b f l d) (fun r=>r.Perm (x::d)∧Heap r (d.length+1)):=by
  unfold jJ mq gR
  refine Es (P:=fun r=>r=d++[x]) (Es (Er (by simp only [CT,CU];omega)) (fun r g=>FF g)) (fun y C=>?_)
  subst C
  rw [zc]
  have z:((d++[x]).length:Int)=d.length+1:=by simp
  have j:(d++[x]).length=d.length+1:=by simp
  rw [z,w64 za za]
  refine Es (up_heap za so (fun i k hi B=>?_) (fun c k hc p t=>?_)) (fun r g=>FF ⟨g.1.trans (F7 (l₂:=[x])),by rw [<-j];exact g.2⟩)
  · have:i<d.length:=by omega
    rw [at_snoc za,at_snoc this]
    exact u i k this
  · omega
theorem push1_heap{q:ai}{a b:Int}{f:Bool}{l:al}{x:Item}:Ok (jM x q a b f l) (fun r=>r.Perm [x]∧Heap r 1):=by
  unfold jM m7 gR
  refine Es (P:=fun r=>r=[x]) (Es (Er sm) (fun r c=>FF c)) (fun y g=>?_)
  subst g
  rw [zc]
  rw [w64 sm sm]
  exact Es (up_ok sm sm) (fun r c=>FF ⟨c,fun i j hi=>za⟩)
end Go.Dw.Ss
set_option maxRecDepth 100000
set_option maxHeartbeats 4000000
namespace Go.Dw.Ss
open Go.Dw Go.Proofs
theorem mid_at{a b:Int}(c: -1048576<=a∧a<=b∧b<=1048576):dh a b=some (a+(b-a) / 2)∧iV a b=some (a+(b-a) / 2):=by
  unfold dh iV
  rw [w64 (n:=b-a) za za]
  have:qa .i64 (b-a) 2=some ((b-a) / 2):=by
    unfold qa;rw [if_neg (by decide),E6 za,w64 za za]
  rw [this,zc,w64 za za]
  exact⟨rfl,rfl⟩
def cen(b:ah):aa:=⟨b.bh.fX+(b.av.fX-b.bh.fX) / 2,b.bh.fY+(b.av.fY-b.bh.fY) / 2,b.bh.fZ+(b.av.fZ-b.bh.fZ) / 2⟩
theorem center_eq{b:ah}(c:BoxP b):js b=some (cen b)∧iU b=some (cen b):=by
  obtain⟨⟨p,q,r⟩,⟨g1,g2,g3⟩,s1,s2,s3⟩:=id c
  obtain⟨f,g⟩:=mid_at (a:=b.bh.fX) (b:=b.av.fX) za
  obtain⟨j,k⟩:=mid_at (a:=b.bh.fY) (b:=b.av.fY) za
  obtain⟨l,z2⟩:=mid_at (a:=b.bh.fZ) (b:=b.av.fZ) za
  unfold js iU bU ca
  rw [ja,gC,decide_eq_true c]
  simp only [zc,FN,Cb,if_false,f,g,j,k,l,z2]
  exact⟨rfl,rfl⟩
theorem cen_sub{r b:ah}(h:Sub r b):Sub r ⟨cen b,cen b⟩:=by
  obtain⟨h1,a,c⟩:=h
  unfold cen
  exact⟨zb,zb,zb⟩
theorem points_eq{b:ah}(a:BoxP b):∃n,jt b=some n∧lE b=some n∧(b.av.fX=b.bh.fX->b.av.fY=b.bh.fY->b.av.fZ=b.bh.fZ->n=1):=by
  obtain⟨⟨g,j,k⟩,⟨g1,g2,g3⟩,s1,s2,s3⟩:=id a
  unfold jt lE bU
  rw [ja,gC,decide_eq_true a]
  simp only [zc,FN,Cb,if_false,Int.one_mul]
  rw [w64 (n:=b.av.fX-b.bh.fX) za za,w64 (n:=b.av.fX-b.bh.fX+1) za za,w64 (n:=b.av.fX-b.bh.fX+1) za za]
  refine⟨_,rfl,rfl,fun c e2 f=>?_⟩
  rw [c,e2,f,FW,FW,FW]
  decide
theorem split_eq{b:ah}(k:BoxP b):∃s,fP b=some s∧lq b=some s∧(s.2.2=true->∀r,Sub r b->Sub r s.1∧Sub r s.2.1):=by
  obtain⟨⟨G,H,I⟩,⟨g1,g2,g3⟩,s1,s2,s3⟩:=id k
  obtain⟨n,n1,B,C⟩:=points_eq k
  obtain⟨D, -⟩:=mid_at (a:=b.bh.fX) (b:=b.av.fX) za
  obtain⟨E, -⟩:=mid_at (a:=b.bh.fY) (b:=b.av.fY) za
  obtain⟨F, -⟩:=mid_at (a:=b.bh.fZ) (b:=b.av.fZ) za
  unfold fP lq bU ca
  rw [n1,B,(center_eq k).2]
  by_cases x:n<2
  · simp only [zc,x,decide_true,if_true]
    exact⟨_,rfl,rfl,fun h=>by cases h⟩
  simp only [zc,x,decide_false,Cb,if_false,D,E,F]
  rw [w64 (n:=b.av.fX-b.bh.fX) za za,w64 (n:=b.av.fY-b.bh.fY) za za,w64 (n:=b.av.fZ-b.bh.fZ) za za]
  have l:¬(b.av.fX=b.bh.fX∧b.av.fY=b.bh.fY∧b.av.fZ=b.bh.fZ):=fun⟨y,e2,z⟩=>by have:=C y e2 z;omega
  unfold cen
  by_cases u:b.av.fY-b.bh.fY>b.av.fX-b.bh.fX
  · have f:¬(b.av.fX-b.bh.fX>=b.av.fY-b.bh.fY):=by omega
    simp only [u,f,decide_true,decide_false,Cb,if_true,if_false]
    by_cases g:b.av.fZ-b.bh.fZ>b.av.fY-b.bh.fY
    · have c:¬(b.av.fY-b.bh.fY>=b.av.fZ-b.bh.fZ):=by omega
      simp only [g,c,decide_true,decide_false,Cb,if_true,if_false]
      rw [w64 (n:=b.bh.fZ+(b.av.fZ-b.bh.fZ) / 2+1) za za]
      exact⟨_,rfl,rfl,fun _ r⟨p,q,t⟩=>⟨⟨zb,zb,zb⟩,zb,zb,zb⟩⟩
    · have c:b.av.fY-b.bh.fY>=b.av.fZ-b.bh.fZ:=by omega
      simp only [g,c,decide_true,decide_false,Cb,if_true,if_false]
      rw [w64 (n:=b.bh.fY+(b.av.fY-b.bh.fY) / 2+1) za za]
      exact⟨_,rfl,rfl,fun _ r⟨p,q,t⟩=>⟨⟨zb,zb,zb⟩,zb,zb,zb⟩⟩
  · have f:b.av.fX-b.bh.fX>=b.av.fY-b.bh.fY:=by omega
    simp only [u,f,decide_true,decide_false,Cb,if_true,if_false]
    by_cases g:b.av.fZ-b.bh.fZ>b.av.fX-b.bh.fX
    · have c:¬(b.av.fX-b.bh.fX>=b.av.fZ-b.bh.fZ):=by omega
      have j:¬(b.av.fY-b.bh.fY>=b.av.fZ-b.bh.fZ):=by omega
      simp only [g,c,j,decide_true,decide_false,Cb,if_true,if_false]
      rw [w64 (n:=b.bh.fZ+(b.av.fZ-b.bh.fZ) / 2+1) za za]
      exact⟨_,rfl,rfl,fun _ r⟨p,q,t⟩=>⟨⟨zb,zb,zb⟩,zb,zb,zb⟩⟩
    · have c:b.av.fX-b.bh.fX>=b.av.fZ-b.bh.fZ:=by omega
      simp only [g,c,decide_true,decide_false,Cb,if_true,if_false]
      rw [w64 (n:=b.bh.fX+(b.av.fX-b.bh.fX) / 2+1) za za]
      exact⟨_,rfl,rfl,fun _ r⟨p,q,t⟩=>⟨⟨zb,zb,zb⟩,zb,zb,zb⟩⟩
def mn(a b:Int):Int:=if b<a then b else a
def mx(a b:Int):Int:=if b>a then b else a
def hull(a b:ah):ah:=⟨⟨mn a.bh.fX b.bh.fX,mn a.bh.fY b.bh.fY,mn a.bh.fZ b.bh.fZ⟩,⟨mx a.av.fX b.av.fX,mx a.av.fY b.av.fY,mx a.av.fZ b.av.fZ⟩⟩
theorem hull_eq{a b:ah}(c:BoxP a)(f:BoxP b):kZ a b=some (hull a b)∧nh a b=some (hull a b):=by
  unfold kZ nh bU ca hull mn mx
  rw [ja,gC,decide_eq_true c,ja,gC,decide_eq_true f]
  simp only [zc,FN,Cb,if_false]
  constructor<;>first|rfl|trivial
theorem hull_ok{r a b:ah}(c:Sub r a)(f:Sub r b):Sub r (hull a b):=by
  obtain⟨a1,a2,a3⟩:=c
  obtain⟨b1,b2,g⟩:=f
  unfold hull mn mx
  exact⟨zb,zb,zb⟩
theorem mn_comm(a b c:Int):mn (mn a b) c=mn (mn a c) b:=by unfold mn;split<;>split<;>(try split)<;>(try split)<;>omega
theorem mx_comm(a b c:Int):mx (mx a b) c=mx (mx a c) b:=by unfold mx;split<;>split<;>(try split)<;>(try split)<;>omega
theorem hull_comm(a b c:ah):hull (hull a b) c=hull (hull a c) b:=by
  unfold hull
  simp only [mn_comm _ b.bh.fX c.bh.fX,mn_comm _ b.bh.fY c.bh.fY,mn_comm _ b.bh.fZ c.bh.fZ,mx_comm _ b.av.fX c.av.fX,mx_comm _ b.av.fY c.av.fY,mx_comm _ b.av.fZ c.av.fZ]
theorem or3(a b c:Int):dB [a,b,c]=some (if a≠0 then a else if b≠0 then b else c):=by
  unfold dB
  rw [show((0:Int))=((0:Nat):Int)from rfl,Sd.or_go (l:=[a,b,c]) (n:=0) (r:=[a,b,c]) sm za sm]
  by_cases h1:a=0
  · by_cases f:b=0
    · by_cases g:c=0
      · simp [h1,f,g]
      · simp [h1,f,g]
    · simp [h1,f]
  · simp [h1]
theorem sign_at(a b:Int):kN a b=some (rU a b):=by
  unfold kN rU
  by_cases h1:a<b
  · simp [h1]
  · by_cases c:a>b
    · simp [h1,c]
    · simp [h1,c]
theorem cmp_eq(a b:aa):∃c,fN a b=some c∧jn a b=some c:=by
  unfold fN jn
  rw [Sd.ml,Sd.ml,Sd.ml,sign_at,sign_at,sign_at]
  simp only [zc]
  rw [or3]
  by_cases h1:rU a.fX b.fX=0
  · by_cases f:rU a.fY b.fY=0
    · simp [h1,f]
    · simp [h1,f]
  · simp [h1]
end Go.Dw.Ss
set_option maxRecDepth 100000
set_option maxHeartbeats 4000000
namespace Go.Dw.Ss
open Go.Dw Go.Proofs
abbrev OB:=bn
def dF:List OB->Nat->List Item
  | [],_=>[]
  |o::l,k=>if o.eY=true then dF l (k+1)else⟨o.dC,o.bY,(k:Int)⟩::dF l (k+1)
def itm(o:OB)(k:Nat):Item:=⟨o.dC,o.bY,(k:Int)⟩
theorem kG{x:Item}:∀{l:List OB}{k:Nat},x∈dF l k↔∃(j:Nat)(h:j<l.length),l[j].eY=false∧x=itm l[j] (k+j)
  | [],k=>by simp [dF]
  |o::l,k=>by
    have a:=kG (x:=x) (l:=l) (k:=k+1)
    unfold dF
    by_cases ho:o.eY=true
    · rw [if_pos ho,a]
      constructor
      · rintro⟨j,h,h1,rfl⟩
        exact⟨j+1,by simpa using h,h1,by simp [itm];omega⟩
      · rintro⟨j,h,h1,rfl⟩
        cases j with
        |zero=>simp [ho]at h1
        |succ j=>exact⟨j,by simpa using h,h1,by simp [itm];omega⟩
    · rw [if_neg ho,Du,a]
      constructor
      · rintro(rfl|⟨j,h,h1,rfl⟩)
        · exact⟨0,sm,by simpa using ho,rfl⟩
        · exact⟨j+1,by simpa using h,h1,by simp [itm];omega⟩
      · rintro⟨j,h,h1,rfl⟩
        cases j with
        |zero=>exact .inl rfl
        |succ j=>exact .inr ⟨j,by simpa using h,h1,by simp [itm];omega⟩
theorem items_nil{l:List OB}:∀{k:Nat},(∀o∈l,o.eY=true)->dF l k=[]:=by
  induction l with
  |nil=>intro k _;rfl
  |cons o l c=>
    intro k h
    unfold dF
    rw [if_pos (h o sm)]
    exact c fun x a=>h x (by simp [a])
theorem items_app(m:List OB):∀(l:List OB)(k:Nat),dF (l++m) k=dF l k++dF m (k+l.length)
  | [],k=>by simp [dF]
  |o::l,k=>by
    have a:=items_app m l (k+1)
    show(if o.eY=true then dF (l++m) (k+1)else⟨o.dC,o.bY,(k:Int)⟩::dF (l++m) (k+1))=(if o.eY=true then dF l (k+1)else⟨o.dC,o.bY,(k:Int)⟩::dF l (k+1))++dF m (k+(o::l).length)
    rw [a,show k+1+l.length=k+(o::l).length by simp;omega]
    split<;>rfl
def dn(o:OB):OB:=⟨o.dC,o.bY,true⟩
theorem items_done:∀{l:List OB}{k j:Nat}(h:j<l.length),l[j].eY=false->(dF l k).Perm (itm l[j] (k+j)::dF (l.set j (dn l[j])) k)
  | [],k,j,h,_=>by simp at h
  |o::l,k,0,h,a=>by
    have a:o.eY=false:=a
    show(if o.eY=true then dF l (k+1)else _).Perm (_::(if(dn o).eY=true then dF l (k+1)else _))
    rw [if_neg (by simp [a]),if_pos (by rfl)]
    exact List.Perm.refl _
  |o::l,k,j+1,h,a=>by
    have f:j<l.length:=by simpa using h
    have c:=items_done (l:=l) (k:=k+1) (j:=j) f a
    have e:itm l[j] (k+1+j)=itm ((o::l)[j+1]'h) (k+(j+1)):=by simp [itm];omega
    show(if o.eY=true then dF l (k+1)else⟨o.dC,o.bY,(k:Int)⟩::dF l (k+1)).Perm (_::(if o.eY=true then dF (l.set j _) (k+1)else⟨o.dC,o.bY,(k:Int)⟩::dF (l.set j _) (k+1)))
    rw [<-e]
    split
    · exact c
    · exact(List.Perm.cons _ c).trans (List.Perm.swap _ _ _)
theorem next_ok(l:List OB)(E:l.length<=10000):Ok (nj l) (fun n=>(n= -1∧∀o∈l,o.eY=true)∨∃(k:Nat)(h:k<l.length),n=k∧l[k].eY=false∧∀(j:Nat)(c:j<l.length),l[j].eY=false->leI (itm l[k] k) (itm l[j] j)):=by
  unfold nj
  rw [Ep]
  refine Ez (fun s:Int×Int=>∃i:Nat,s.2=i∧i<=l.length∧((s.1= -1∧∀(j:Nat)(c:j<l.length),j<i->l[j].eY=true)∨∃(k:Nat)(h:k<l.length),k<i∧s.1=k∧l[k].eY=false∧∀(j:Nat)(c:j<l.length),j<i->l[j].eY=false->leI (itm l[k] k) (itm l[j] j))) (fun s=>((l.length:Int)-s.2).toNat) ?_ ⟨0,rfl,za,.inl ⟨rfl,fun j _ h=>za⟩⟩
  rintro⟨s1,s2⟩ ⟨i,t,hi,y⟩
  simp only at t y
  subst t
  unfold md
  dsimp only
  refine FC (fun D=>?_) (fun C=>FH ?_)
  · have p:i<l.length:=by omega
    rw [j0 rfl p]
    simp only [zc]
    rw [w64 (n:=(i:Int)+1) za za]
    refine FU (fun x=>?_) (fun z=>?_)
    · rcases y with⟨rfl,r⟩|⟨k,hk,u,rfl,f,q⟩
      · refine FC (fun _=>FB ⟨i+1,rfl,za,.inr ⟨i,p,za,rfl,x,fun j c g a=>?_⟩⟩ zb) (fun h=>za)
        by_cases e:j=i
        · subst e;exact mP _
        · have:=r j c za;rw [this]at a;cases a
      · refine FC (fun h=>za) (fun _=>?_)
        rw [j0 rfl hk]
        simp only [zc]
        refine FC (fun B=>FB ⟨i+1,rfl,za,.inr ⟨i,p,za,rfl,x,fun j c g a=>?_⟩⟩ zb) (fun B=>FB ⟨i+1,rfl,za,.inr ⟨k,hk,za,rfl,f,fun j c g a=>?_⟩⟩ zb)
        · by_cases e:j=i
          · subst e;exact mP _
          · have:=q j c za a
            unfold leI itm at*
            simp only at*
            omega
        · by_cases e:j=i
          · subst e
            unfold leI itm
            simp only
            omega
          · exact q j c za a
    · rcases y with⟨rfl,r⟩|⟨k,hk,u,rfl,f,q⟩
      · refine FB ⟨i+1,rfl,za,.inl ⟨rfl,fun j c g=>?_⟩⟩ zb
        by_cases e:j=i
        · subst e;exact z
        · exact r j c za
      · refine FB ⟨i+1,rfl,za,.inr ⟨k,hk,za,rfl,f,fun j c g a=>?_⟩⟩ zb
        by_cases e:j=i
        · subst e;rw [z]at a;cases a
        · exact q j c za a
  · have:i=l.length:=by omega
    subst this
    rcases y with⟨rfl,r⟩|⟨k,hk,u,rfl,f,q⟩
    · refine .inl ⟨rfl,fun o ho=>?_⟩
      obtain⟨j,c,rfl⟩:=Eg ho
      exact r j c c
    · exact .inr ⟨k,hk,rfl,f,fun j c a=>q j c c a⟩
theorem leI_anti{o p:OB}{k j:Nat}(h1:leI (itm o k) (itm p j))(a:leI (itm p j) (itm o k)):k=j:=by
  unfold leI itm at*
  simp only at*
  omega
theorem first_is{l:List OB}{x:Item}{d:List Item}(hp:(x::d).Perm (dF l 0))(t:Heap (x::d) (d.length+1)){k:Nat}(hk:k<l.length)(r:l[k].eY=false)(hm:∀(j:Nat)(p:j<l.length),l[j].eY=false->leI (itm l[k] k) (itm l[j] j)):x=itm l[k] k:=by
  have u:x∈dF l 0:=hp.mem_iff.1 sm
  obtain⟨j,p,c,e⟩:=kG.1 u
  rw [CF]at e
  have g:itm l[k] k∈x::d:=hp.mem_iff.2 (kG.2 ⟨k,hk,r,by rw [CF]⟩)
  obtain⟨i,hi,q⟩:=Eg g
  have a:=t.root i (by simpa using hi)
  rw [mY (zd hi),q]at a
  have a:leI x (itm l[k] k):=a
  rw [e]at a
  have f:j=k:=leI_anti a (hm j p c)
  subst f
  exact e
end Go.Dw.Ss
set_option maxRecDepth 100000
set_option maxHeartbeats 4000000
namespace Go.Dw.Ss
open Go.Dw Go.Proofs
abbrev Loc0:=al
def zB:ah:=ah.mk (aa.mk 0 0 0) (aa.mk 0 0 0)
def zL:Loc0:=al.mk (aa.mk 0 0 0) 0 0 0 zB
abbrev bet(f:Bool)(m:Int)(best:Loc0)(c:Int):Prop:=f=false∨m<best.ci∨(m=best.ci∧c<0)
theorem look_eq{q:ai}{b:ah}(k:BoxP b){tm m:Int}(j:mQ q (cen b)=some (tm,m,0))(n l:Int)(f:Bool)(best:Loc0)(d:List Item){c:Int}(hc:fN (cen b) best.b7=some c):
    lv b q n l f best d=some (0,true,if bet f m best c then⟨cen b,tm,m,0,zB⟩else best):=by
  unfold lv
  rw [(center_eq k).1,zc,j,zc]
  simp only [bne_self_eq_false,Cb,if_false]
  cases f with
  |false=>rw [if_pos (by rfl),if_pos (.inl rfl)];rfl
  |true=>
    rw [if_neg sm]
    by_cases h1:m<best.ci
    · rw [if_pos (by simpa using h1),if_pos (.inr (.inl h1))];rfl
    · rw [if_neg (by simpa using h1)]
      by_cases a:m=best.ci
      · rw [if_pos (by simpa using a),hc,zc]
        by_cases g:c<0
        · rw [if_pos (by simpa using g),if_pos (.inr (.inr ⟨a,g⟩))];rfl
        · rw [if_neg (by simpa using g), if_neg (by
                                                     rintro (h | h | h); · cases h
                                                     · exact h1 h
                                                     · exact g h.2)]
      · rw [if_neg (by simpa using a), if_neg (by
                                                   rintro (h | h | h); · cases h
                                                   · exact h1 h
                                                   · exact a h.1)]
theorem addq_ok{q:ai}(t:PVR q){b:ah}{c:Int}(g:iP q b=some (c,0)){n:Nat}(p:n<=10000)(l:Int)(f:Bool)(best:Loc0){d:List Item}(j:d.length<=10000)(k:Heap d d.length):
    Ok (iE b q n l f best d) (fun r=>r.1=0∧r.2.1=((n+1:Nat):Int)∧r.2.2.Perm (⟨b,c,(n:Int)⟩::d)∧Heap r.2.2 (d.length+1)):=by
  unfold iE mh
  rw [g,zc,if_pos (by rfl)]
  refine Es (push_heap j k) (fun x a=>?_)
  rw [w64 za za]
  exact FF ⟨rfl,rfl,a.1,a.2⟩
structure SRel(q:ai)(t:Nat)(num tk:Int)(f:Bool)(best:Loc0)(d:List Item)(s5:Int)(l:List OB)(X Y Z tm m:Int):Prop where
  tk1:tk=t
  tk2:s5=t
  tle:t<=3000
  num:num=l.length
  len:l.length<=2*t+1
  found:f=decide (0<t)
  best:0<t->best=⟨⟨X,Y,Z⟩,tm,m,0,zB⟩∧Sub q.bk ⟨⟨X,Y,Z⟩,⟨X,Y,Z⟩⟩
  perm:d.Perm (dF l 0)
  heap:Heap d d.length
  sub:∀o∈l,Sub q.bk o.dC
  zero:t=0->∃b,l=[⟨q.bk,b,false⟩]
theorem items_len:∀(l:List OB)(k:Nat),(dF l k).length<=l.length
  | [],k=>by simp [dF]
  |o::l,k=>by
    have:=items_len l (k+1)
    show(if o.eY=true then dF l (k+1)else _::dF l (k+1)).length<=_
    split<;>simp only [CT]<;>omega
theorem step_sim{q:ai}(hq:PVR q){t:Nat}{num tk:Int}{f:Bool}{best:Loc0}{d:List Item}{s5:Int}{l:List OB}{X Y Z tm m:Int}(h:SRel q t num tk f best d s5 l X Y Z tm m){k:Nat}(hk:k<l.length)(h0:l[k].eY=false)(hm:∀(j:Nat)(hj:j<l.length),l[j].eY=false->leI (itm l[k] k) (itm l[j] j)):
    (t=3000∧(∃y,fw q num tk f best d=some (25,y))∧cE s5 l k q m X Y Z tm=some (.stop (.inr (zL,0,25))))∨
    (∃a5 F d' l' z B C g K,fw q num tk f best d=some (0,a5,((t+1:Nat):Int),true,F,d')∧cE s5 l k q m X Y Z tm=some (.next (((t+1:Nat):Int),l',z,B,C,g,K))∧SRel q (t+1) a5 ((t+1:Nat):Int) true F d' ((t+1:Nat):Int) l' z B C g K):=by
  obtain⟨rfl,rfl,tle,rfl,hlen,rfl,a7,r,G,W,hzero⟩:=h
  have c9:d.length<=l.length:=by rw [r.length_eq];exact items_len l 0
  by_cases ht:t=3000
  · left
    refine⟨ht,?_,?_⟩
    · unfold fw
      rw [if_pos (by simp [ht])]
      exact⟨_,rfl⟩
    · unfold cE
      rw [if_pos (by simp [ht])];rfl
  right
  have c4:((t:Int)==3000)=false:=by simp;omega
  obtain⟨x,N,rfl⟩:∃x N,d=x::N:=by
    cases d with
    |nil=>
      have:=r.mem_iff.2 (kG.2 ⟨k,hk,h0,rfl⟩)
      cases this
    |cons x N=>exact⟨x,N,rfl⟩
  have hx:x=itm l[k] k:=first_is r (by simpa using G) hk h0 hm
  subst hx
  have hb:=W _ (C9 hk)
  have hB:=hb.ok hq.box
  obtain⟨pt,pm,a1,a2⟩:=mat_eq hq (cen_sub hb)
  obtain⟨sp,d2,d3,d4⟩:=split_eq hB
  obtain⟨cc,a6, -⟩:=cmp_eq (cen l[k].dC) best.b7
  simp only [CT]at c9
  obtain⟨rp,d1,c5,c6⟩:=pop_heap (q:=q) (a:=(l.length:Int)) (b:=(t:Int)) (f:=decide (0<t)) (l:=best) (x:=itm l[k] k) (d:=N) (by simp only [CT];omega) (by simpa using G)
  have L:rp.2.length=N.length:=c5.length_eq
  have e6:l.set k (dn l[k])=l.set k (dn l[k]):=rfl
  have b5:=items_done (k:=0) hk h0
  rw [CF]at b5
  have c0:rp.2.Perm (dF (l.set k (dn l[k])) 0):=c5.trans ((F8 _).1 (r.trans b5))
  have J:∀o∈l.set k (dn l[k]),Sub q.bk o.dC:=fun o ho=>by
    rcases List.mem_or_eq_of_mem_set ho with h1|rfl
    · exact W o h1
    · exact hb
  have b6:uX l (k:Int) (fun(z25:bn)=>(bn.mk z25.dC z25.bY true))=some (l.set k (dn l[k])):=Iv.modO_at rfl hk
  have hg:pb (l.set k (dn l[k])) (k:Int)=some (dn l[k]):=by
    rw [j0 (i:=k) rfl (by simpa using hk),List.getElem_set_self]
  obtain⟨E,b0⟩:∃E:Loc0,E=if bet (decide (0<t)) pm best cc then⟨cen l[k].dC,pt,pm,0,zB⟩else best:=⟨_,rfl⟩
  have H:=look_eq (q:=q) hB a1 (l.length:Int) ((t+1:Nat):Int) (decide (0<t)) best rp.2 a6
  rw [<-b0]at H
  have hR:∃z B C g K,E=⟨⟨z,B,C⟩,g,K,0,zB⟩∧Sub q.bk ⟨⟨z,B,C⟩,⟨z,B,C⟩⟩∧cE (t:Int) l k q m X Y Z tm=cj (l.set k (dn l[k])) k q t z B C g K:=by
    have a8:=cen_sub hb
    have base:cE (t:Int) l k q m X Y Z tm=(if((t:Int)==(0:Int))=true then(cj (l.set k (dn l[k])) k q t (cen l[k].dC).fX (cen l[k].dC).fY (cen l[k].dC).fZ pt pm)else(if(decide (pm<m))=true then(cj (l.set k (dn l[k])) k q t (cen l[k].dC).fX (cen l[k].dC).fY (cen l[k].dC).fZ pt pm)else(if(pm==m)=true then((jn (cen l[k].dC) (aa.mk X Y Z)).bind fun e3=>if(decide (e3<(0:Int)))=true then(cj (l.set k (dn l[k])) k q t (cen l[k].dC).fX (cen l[k].dC).fY (cen l[k].dC).fZ pt pm)else(cj (l.set k (dn l[k])) k q t X Y Z tm m))else(cj (l.set k (dn l[k])) k q t X Y Z tm m)))):=by
      unfold cE
      rw [c4,if_neg sm,ql za za,zc,b6,zc,ql za (by simpa using hk),zc,hg,zc]
      show((iU l[k].dC).bind _)=_
      rw [(center_eq hB).2,zc,a2,zc]
    rw [base,b0]
    rcases Dv t with rfl|c3
    · have p:bet (decide (0<0)) pm best cc:=Or.inl sm
      rw [if_pos p,if_pos (show(((0:Nat):Int)==0)=true from rfl)]
      exact⟨_,_,_,_,_,rfl,a8,rfl⟩
    · obtain⟨rfl,b4⟩:=a7 c3
      obtain⟨u,k1,k2⟩:=cmp_eq (cen l[k].dC) ⟨X,Y,Z⟩
      have:u=cc:=by rw [k1]at a6;exact DS a6
      subst this
      have e0:((t:Int)==0)=false:=by simp;omega
      rw [e0]
      simp only [Cb,if_false]
      by_cases g1:pm<m
      · have p:bet (decide (0<t)) pm ⟨⟨X,Y,Z⟩,tm,m,0,zB⟩ u:=Or.inr (Or.inl g1)
        rw [if_pos p,if_pos (show decide (pm<m)=true by simpa using g1)]
        exact⟨_,_,_,_,_,rfl,a8,rfl⟩
      · rw [if_neg (show ¬decide (pm<m)=true by simpa using g1)]
        by_cases g2:pm=m
        · rw [if_pos (show(pm==m)=true by simpa using g2),k2,zc]
          by_cases g3:u<0
          · have p:bet (decide (0<t)) pm ⟨⟨X,Y,Z⟩,tm,m,0,zB⟩ u:=Or.inr (Or.inr ⟨g2,g3⟩)
            rw [if_pos p,if_pos (show decide (u<0)=true by simpa using g3)]
            exact⟨_,_,_,_,_,rfl,a8,rfl⟩
          · have p:¬bet (decide (0<t)) pm ⟨⟨X,Y,Z⟩,tm,m,0,zB⟩ u:=by
              rintro(h|h|h)
              · simp at h;omega
              · exact g1 h
              · exact g3 h.2
            rw [if_neg p,if_neg (show ¬decide (u<0)=true by simpa using g3)]
            exact⟨X,Y,Z,tm,m,rfl,b4,rfl⟩
        · have p:¬bet (decide (0<t)) pm ⟨⟨X,Y,Z⟩,tm,m,0,zB⟩ u:=by
            rintro(h|h|h)
            · simp at h;omega
            · exact g1 h
            · exact g2 h.1
          rw [if_neg p,if_neg (show ¬(pm==m)=true by simpa using g2)]
          exact⟨X,Y,Z,tm,m,rfl,b4,rfl⟩
  obtain⟨z,B,C,g,K,O,b3,T⟩:=hR
  have hw:Dt .i64 ((t:Int)+1)=((t+1:Nat):Int):=by rw [w64 za za];rfl
  have I:∀y,fw q (l.length:Int) t (decide (0<t)) best (itm l[k] k::N)=y↔((if(!sp.2.2)=true then(some ((0:Int),(l.length:Int),((t+1:Nat):Int),true,E,rp.2))else((iE sp.1 q (l.length:Int) ((t+1:Nat):Int) true E rp.2).bind fun D=>if(D.1 != (0:Int))=true then(some (D.1,D.2.1,((t+1:Nat):Int),true,E,D.2.2))else((iE sp.2.1 q D.2.1 ((t+1:Nat):Int) true E D.2.2).bind fun a9=>some (a9.1,a9.2.1,((t+1:Nat):Int),true,E,a9.2.2)))))=y:=fun y=>by
    unfold fw
    rw [c4,if_neg sm,ql za (by simp only [CT];omega),zc,j0 (i:=0) (by rfl) sm,zc,d1,zc,hw]
    show((lv l[k].dC q (l.length:Int) ((t+1:Nat):Int) (decide (0<t)) best rp.2).bind _)=y↔_
    rw [H,zc]
    simp only [bne_self_eq_false,Cb,if_false]
    show((fP l[k].dC).bind _)=y↔_
    rw [d2,zc]
  have c:(l.set k (dn l[k])).length=l.length:=by simp
  have Q:∀y,cj (l.set k (dn l[k])) k q t z B C g K=y↔(if sp.2.2=true then((gm q sp.1).bind fun d5=>(gm q sp.2.1).bind fun e1=>(pG (l.set k (dn l[k])) [(bn.mk sp.1 d5.1 false),(bn.mk sp.2.1 e1.1 false)] 64).bind fun e2=>some (.next (((t+1:Nat):Int),e2,z,B,C,g,K)))else(some (.next (((t+1:Nat):Int),l.set k (dn l[k]),z,B,C,g,K))))=y:=fun y=>by
    unfold cj
    rw [ql za (by rw [c];omega),zc,hg,zc,hw]
    show((lq l[k].dC).bind _)=y↔_
    rw [d3,zc]
  cases hs:sp.2.2 with
  |false=>
    refine⟨l.length,E,rp.2,l.set k (dn l[k]),z,B,C,g,K,(I _).2 (by rw [hs];rfl),by rw [T];exact(Q _).2 (by rw [hs];rfl),rfl,rfl,za,by rw [c],by rw [c];omega,sm,fun _=>⟨O,b3⟩,c0,by rw [L];exact c6,J,fun h=>za⟩
  |true=>
    obtain⟨u1,u2⟩:=d4 hs _ hb
    obtain⟨c1,b1,c7⟩:=mbound_eq hq u1
    obtain⟨c2,b2,c8⟩:=mbound_eq hq u2
    obtain⟨y1,e4,g1,g2,g3,g4⟩:=addq_ok hq b1 (n:=l.length) za ((t+1:Nat):Int) true E (d:=rp.2) za (by rw [L];exact c6)
    have d0:y1.2.2.length=N.length+1:=by rw [g3.length_eq];simp [L]
    obtain⟨y2,e5,k1,k2,k3,k4⟩:=addq_ok hq b2 (n:=l.length+1) za ((t+1:Nat):Int) true E (d:=y1.2.2) za (by rw [d0, <-L];exact g4)
    have ha:pG (l.set k (dn l[k])) [(bn.mk sp.1 c1 false),(bn.mk sp.2.1 c2 false)] 64=some (l.set k (dn l[k])++[⟨sp.1,c1,false⟩,⟨sp.2.1,c2,false⟩]):=by
      unfold pG;rw [if_pos (by rw [c];simp only [CT,CU];omega)]
    refine⟨((l.length+1+1:Nat):Int),E,y2.2.2,l.set k (dn l[k])++[⟨sp.1,c1,false⟩,⟨sp.2.1,c2,false⟩],z,B,C,g,K,(I _).2 ?_,by rw [T];exact(Q _).2 (by rw [hs,if_pos rfl,c7,zc,c8,zc,ha,zc]),rfl,rfl,za,by rw [DA,c];rfl,so,sm,fun _=>⟨O,b3⟩,?_,?_,?_,fun h=>za⟩
    · rw [hs,if_neg sm,e4,zc,g1,g2]
      simp only [bne_self_eq_false,Cb,if_false]
      rw [e5,zc,k1,k2]
    · rw [items_app]
      have e:dF [(⟨sp.1,c1,false⟩:OB),⟨sp.2.1,c2,false⟩] (0+(l.set k (dn l[k])).length)=[⟨sp.1,c1,(l.length:Int)⟩,⟨sp.2.1,c2,((l.length+1:Nat):Int)⟩]:=by
        rw [c,CF];rfl
      rw [e]
      refine(k3.trans (List.Perm.cons _ (g3.trans (List.Perm.cons _ c0)))).trans ?_
      refine(List.Perm.swap _ _ _).trans ?_
      exact(F7 (l₁:=[_,_]))
    · have:y2.2.2.length=y1.2.2.length+1:=by rw [k3.length_eq];simp
      rw [this];exact k4
    · intro o ho
      rcases List.mem_append.1 ho with h|h
      · exact J o h
      · rcases List.mem_cons.1 h with rfl|h
        · exact u1
        · rw [List.mem_singleton.1 h];exact u2
end Go.Dw.Ss
set_option maxRecDepth 100000
set_option maxHeartbeats 4000000
namespace Go.Dw.Ss
open Go.Dw Go.Proofs
theorem loop_sim{q:ai}(hq:PVR q)(tol:Int):∀(n t:Nat),t+n=3001->∀{num u:Int}{f:Bool}{best:Loc0}{d:List Item}{r:Int}{l:List OB}{X Y Z tm m:Int},SRel q t num u f best d r l X Y Z tm m->
    (∃(t':Nat)(j:Int)(a:Loc0)(D:List Item)(F:List OB)(z B C p G:Int),0<t'∧dE (cu tol q) (num,u,f,best,d)=some (.inl (D,j,(t':Int),true,a))∧dE (co tol q) (r,l,X,Y,Z,tm,m)=some (.inl ((t':Int),F,z,B,C,p,G))∧SRel q t' j t' true a D t' F z B C p G)∨
    (dE (cu tol q) (num,u,f,best,d)=some (.inr (none,25))∧dE (co tol q) (r,l,X,Y,Z,tm,m)=some (.inr (zL,0,25)))
  |0,t,ht,num,u,f,best,d,r,l,X,Y,Z,tm,m,h=>by have:=h.tle;omega
  |n+1,t,ht,num,u,f,best,d,r,l,X,Y,Z,tm,m,h=>by
    obtain⟨nx,W,b4⟩:=next_ok l (by have:=h.len;have:=h.tle;omega)
    have stop:0<t->cu tol q (num,u,f,best,d)=some (.stop (.inl (d,num,u,f,best)))->co tol q (r,l,X,Y,Z,tm,m)=some (.stop (.inl (r,l,X,Y,Z,tm,m)))->
        (∃(t':Nat)(j:Int)(a:Loc0)(D:List Item)(F:List OB)(z B C p G:Int),0<t'∧dE (cu tol q) (num,u,f,best,d)=some (.inl (D,j,(t':Int),true,a))∧dE (co tol q) (r,l,X,Y,Z,tm,m)=some (.inl ((t':Int),F,z,B,C,p,G))∧SRel q t' j t' true a D t' F z B C p G):=fun g J e2=>by
      obtain⟨rfl,rfl,tle,rfl,hlen,rfl,L,Q,O,a8,hzero⟩:=h
      refine⟨t,l.length,best,d,l,X,Y,Z,tm,m,g,?_,by rw [o0 e2],rfl,rfl,tle,rfl,hlen,by simp [g],L,Q,O,a8,hzero⟩
      rw [o0 J,show decide (0<t)=true by simpa using g]
    rcases b4 with⟨rfl,I⟩|⟨k,hk,rfl,K,hm⟩
    · left
      have N:d=[]:=by
        have:=h.perm;rw [items_nil I]at this
        exact List.Perm.eq_nil this
      have g:0<t:=by
        rcases Dv t with K|K
        · obtain⟨b,hb⟩:=h.zero K
          have:=I ⟨q.bk,b,false⟩ (by rw [hb];simp)
          cases this
        · exact K
      refine stop g ?_ ?_
      · unfold cu kx
        dsimp only
        rw [N,if_pos (by rfl),zc,if_neg sm]
      · unfold co
        dsimp only
        rw [W,zc,if_pos sm]
    · obtain⟨x,dt,N⟩:∃x dt,d=x::dt:=by
        cases b0:d with
        |nil=>
          have:=h.perm.mem_iff.2 (kG.2 ⟨k,hk,K,rfl⟩)
          rw [b0]at this;cases this
        |cons x dt=>exact⟨x,dt,rfl⟩
      have hx:x=itm l[k] k:=first_is (by have:=h.perm;rw [N]at this;exact this) (by have:=h.heap;rw [N]at this;simpa using this) hk K hm
      have E:((d.length:Int)==0)=false:=by rw [N];simp;omega
      have b5:¬((k:Int)<0):=by omega
      have a7:inO d (0:Int)=some ():=ql za (by rw [N];simp only [CT];omega)
      have a6:pb d (0:Int)=some x:=by rw [N];exact j0 (i:=0) rfl sm
      have H:(f=true->¬(Dt .i64 (best.ci-x.bY))<=tol)->cu tol q (num,u,f,best,d)=((fw q num u f best d).bind fun c=>if(c.1 != (0:Int))=true then(some (.stop (.inr (none,c.1))))else(some (.next (c.2.1,c.2.2.1,c.2.2.2.1,c.2.2.2.2.1,c.2.2.2.2.2)))):=fun hn=>by
        unfold cu kx
        dsimp only
        rw [E,if_neg sm]
        cases f with
        |false=>rw [if_neg sm,zc,if_pos (by rfl)]
        |true=>rw [if_pos rfl,a7,zc,a6,zc,zc,if_pos (by simpa using hn rfl)]
      have go:cu tol q (num,u,f,best,d)=((fw q num u f best d).bind fun c=>if(c.1 != (0:Int))=true then(some (.stop (.inr (none,c.1))))else(some (.next (c.2.1,c.2.2.1,c.2.2.2.1,c.2.2.2.2.1,c.2.2.2.2.2))))->co tol q (r,l,X,Y,Z,tm,m)=cE r l k q m X Y Z tm->
          (∃(t':Nat)(j:Int)(a:Loc0)(D:List Item)(F:List OB)(z B C p G:Int),0<t'∧dE (cu tol q) (num,u,f,best,d)=some (.inl (D,j,(t':Int),true,a))∧dE (co tol q) (r,l,X,Y,Z,tm,m)=some (.inl ((t':Int),F,z,B,C,p,G))∧SRel q t' j t' true a D t' F z B C p G)∨
          (dE (cu tol q) (num,u,f,best,d)=some (.inr (none,25))∧dE (co tol q) (r,l,X,Y,Z,tm,m)=some (.inr (zL,0,25))):=fun J e2=>by
        rcases step_sim hq h hk K hm with⟨h3,⟨y,hy⟩,hr⟩|⟨j,a,D,F,z,B,C,p,G,hc,hr,hs⟩
        · right
          rw [hy,zc,if_pos sm]at J
          rw [hr]at e2
          exact⟨o0 J,o0 e2⟩
        · rw [hc,zc,if_neg sm]at J
          rw [hr]at e2
          rcases loop_sim hq tol n (t+1) za hs with⟨t',n',b',D,F,z,B,C,p,G,g0,g1,g2,g3⟩|⟨g1,g2⟩
          · left
            exact⟨t',n',b',D,F,z,B,C,p,G,g0,by rw [pe J,g1],by rw [pe e2,g2],g3⟩
          · right
            exact⟨by rw [pe J,g1],by rw [pe e2,g2]⟩
      rcases Dv t with b3|g
      · refine go (H fun hf=>?_) ?_
        · have:=h.found;rw [b3]at this;rw [this]at hf;cases hf
        · unfold co
          dsimp only
          have T:¬(r>0):=by have:=h.tk2;omega
          rw [W,zc,if_neg sm,if_neg (by simpa using T)]
      · obtain⟨hb, -⟩:=h.best g
        have T:r>0:=by have:=h.tk2;omega
        have a5:best.ci=m:=by rw [hb]
        have a9:x.bY=l[k].bY:=by rw [hx];rfl
        have eR:co tol q (r,l,X,Y,Z,tm,m)=(if(decide ((Dt .i64 (m-l[k].bY))<=tol))=true then(some (.stop (.inl (r,l,X,Y,Z,tm,m))))else(cE r l k q m X Y Z tm)):=by
          unfold co
          dsimp only
          rw [W,zc,if_neg sm,if_pos (by simpa using T),ql za za,zc,j0 rfl hk,zc]
        by_cases hle:(Dt .i64 (m-l[k].bY))<=tol
        · left
          refine stop g ?_ (by rw [eR,if_pos (by simpa using hle)])
          unfold cu kx
          dsimp only
          have hf:f=true:=by rw [h.found];simpa using g
          rw [E,if_neg sm,hf,if_pos rfl,a7,zc,a6,zc,zc,a5,a9,if_neg (by simpa using hle)]
        · exact go (H fun _=>by rw [a5,a9];exact hle) (by rw [eR,if_neg (by simpa using hle)])
def gFo(M:Int)(st:Int×ah)(x:Item):Int×ah:=if x.bY<M then(mn st.1 x.bY,hull st.2 x.dC)else st
theorem gFo_comm(M:Int)(st:Int×ah)(x y:Item):gFo M (gFo M st x) y=gFo M (gFo M st y) x:=by
  unfold gFo
  by_cases h1:x.bY<M
  · by_cases a:y.bY<M
    · simp only [h1,a,if_true];rw [mn_comm,hull_comm]
    · simp only [h1,a,if_true,if_false]
  · by_cases a:y.bY<M
    · simp only [h1,a,if_true,if_false]
    · simp only [h1,a,if_false]
theorem foldC{q:ai}(l:PVR q)(a:bZ)(f:∀x∈a.lV,Sub q.bk x.dC)(p:a.lV.length<=10000):∀n i:Nat,i+n=a.lV.length->∀(lo:Int)(c:ah),lo<=a.cg.ci->Sub q.bk c->
    dE (dN a) ((i:Int),lo,c)=some ((a.lV.drop i).foldl (gFo a.cg.ci) (lo,c))
  |0,i,hi,lo,c,h1,j=>by
    rw [F0 za]
    apply o0
    unfold dN;dsimp only;rw [if_neg so];rfl
  |n+1,i,hi,lo,c,h1,j=>by
    have g:i<a.lV.length:=by omega
    have hs:=f _ (C9 g)
    have e:dN a ((i:Int),lo,c)=some (.next (((i+1:Nat):Int),(gFo a.cg.ci (lo,c) a.lV[i]).1,(gFo a.cg.ci (lo,c) a.lV[i]).2)):=by
      unfold dN gFo
      dsimp only
      rw [if_pos so,j0 rfl g,zc,w64 (n:=(i:Int)+1) za za]
      by_cases k:a.lV[i].bY<a.cg.ci
      · rw [if_pos (by simpa using k),(hull_eq (j.ok l.box) (hs.ok l.box)).1,zc,if_pos k];rfl
      · rw [if_neg (by simpa using k),if_neg k,if_neg za];rfl
    rw [pe e,foldC l a f p n (i+1) za _ _ ?_ ?_,Eb g,F2]
    · unfold gFo mn;dsimp only;split<;>(try split)<;>omega
    · unfold gFo;dsimp only;split
      · exact hull_ok j hs
      · exact j
theorem foldR{q:ai}(j:PVR q){t:Int}{l:List OB}{X Y Z tm m:Int}(c:∀o∈l,Sub q.bk o.dC)(x:l.length<=10000):∀n i:Nat,i+n=l.length->∀(lo:Int)(a:ah),Sub q.bk a->
    dE (eT (t,l,X,Y,Z,tm,m)) ((i:Int),lo,a.bh.fX,a.bh.fY,a.bh.fZ,a.av.fX,a.av.fY,a.av.fZ)=some (let r:=(dF (l.drop i) i).foldl (gFo m) (lo,a);(r.1,r.2.bh.fX,r.2.bh.fY,r.2.bh.fZ,r.2.av.fX,r.2.av.fY,r.2.av.fZ))
  |0,i,hi,lo,a,g=>by
    rw [F0 za]
    apply o0
    unfold eT;dsimp only;rw [if_neg so];rfl
  |n+1,i,hi,lo,a,g=>by
    have f:i<l.length:=by omega
    have hs:=c _ (C9 f)
    have p:inO l (i:Int)=some ():=ql za za
    have k:pb l (i:Int)=some l[i]:=j0 rfl f
    rw [Eb f]
    show _=some (let r:=(if l[i].eY=true then dF (l.drop (i+1)) (i+1)else⟨l[i].dC,l[i].bY,(i:Int)⟩::dF (l.drop (i+1)) (i+1)).foldl (gFo m) (lo,a);(r.1,r.2.bh.fX,r.2.bh.fY,r.2.bh.fZ,r.2.av.fX,r.2.av.fY,r.2.av.fZ))
    have e:eT (t,l,X,Y,Z,tm,m) ((i:Int),lo,a.bh.fX,a.bh.fY,a.bh.fZ,a.av.fX,a.av.fY,a.av.fZ)=some (let r:=(if l[i].eY=true then(lo,a)else gFo m (lo,a) ⟨l[i].dC,l[i].bY,(i:Int)⟩); .next (((i+1:Nat):Int),r.1,r.2.bh.fX,r.2.bh.fY,r.2.bh.fZ,r.2.av.fX,r.2.av.fY,r.2.av.fZ)):=by
      unfold eT gFo
      dsimp only
      rw [if_pos so]
      simp only [p,k,zc]
      rw [w64 (n:=(i:Int)+1) za za]
      cases y:l[i].eY with
      |true=>rfl
      |false=>
        by_cases u:l[i].bY<m
        · simp only [u,decide_true,if_true,FY,Cb,if_false]
          have:=(hull_eq (g.ok j.box) (hs.ok j.box)).2
          rw [show ah.mk (aa.mk a.bh.fX a.bh.fY a.bh.fZ) (aa.mk a.av.fX a.av.fY a.av.fZ)=a from rfl,this,zc];rfl
        · simp only [u,decide_false,if_false,FY,Cb,if_true];rfl
    rw [pe e]
    cases y:l[i].eY with
    |true=>exact foldR j c x n (i+1) za lo a g
    |false=>
      refine foldR j c x n (i+1) za (gFo m (lo,a) ⟨l[i].dC,l[i].bY,(i:Int)⟩).1 (gFo m (lo,a) ⟨l[i].dC,l[i].bY,(i:Int)⟩).2 ?_
      unfold gFo;dsimp only;split
      · exact hull_ok g hs
      · exact g
theorem Locate_eq{q:ai}(J:PVR q)(tol:Int):∃r,jj q tol=some r∧lG q tol=some r∧(r.2=0->Sub q.bk r.1.bX):=by
  obtain⟨v1,v2⟩:=pvalid_eq J
  obtain⟨c,b1,b2⟩:=mbound_eq J (Sub.refl J.box)
  unfold jj lG lZ lH
  rw [v1,v2,b2]
  simp only [zc,bne_self_eq_false,Cb,if_false]
  by_cases h0:tol<0
  · simp only [h0,decide_true,if_true,zc]
    exact⟨_,rfl,rfl,fun h=>by cases h⟩
  simp only [h0,decide_false,Cb,if_false]
  unfold oC mF
  rw [b1,zc,if_pos (by rfl)]
  obtain⟨hp,a6,N,a7⟩:=push1_heap (q:=q) (a:=0) (b:=0) (f:=false) (l:=zL) (x:=⟨q.bk,c,0⟩)
  have K:jM (ap.mk q.bk (c,(0:Int)).1 0) q 0 0 false (al.mk (aa.mk 0 0 0) 0 0 0 (ah.mk (aa.mk 0 0 0) (aa.mk 0 0 0)))=some hp:=a6
  rw [K,zc,zc]
  have W:hp.length=1:=N.length_eq
  have a9:SRel q 0 1 0 false zL hp 0 [⟨q.bk,c,false⟩] 0 0 0 0 0:=⟨rfl,rfl,za,rfl,sm,rfl,fun h=>za,N,by rw [W];exact a7,fun o ho=>by rw [List.mem_singleton.1 ho];exact Sub.refl J.box,fun _=>⟨c,rfl⟩⟩
  simp only [bne_self_eq_false,Cb,if_false]
  have hw:Dt .i64 ((0:Int)+1)=1:=by decide
  rw [hw]
  rcases loop_sim J tol 3001 0 za a9 with⟨t',B,F,E,D,g,k,p,C,u,g0,g1,g2,g3⟩|⟨g1,g2⟩
  · have G:dE (cu tol q) ((1:Int),(0:Int),false,(al.mk (aa.mk 0 0 0) 0 0 0 (ah.mk (aa.mk 0 0 0) (aa.mk 0 0 0))),hp)=some (.inl (E,B,(t':Int),true,F)):=g1
    rw [G,g2]
    simp only [zc,optC,bne_self_eq_false,Cb,if_false]
    obtain⟨hb,H⟩:=g3.best g0
    subst hb
    have T:E.length<=10000:=by
      have:=g3.perm.length_eq;have:=items_len D 0;have:=g3.len;have:=g3.tle;omega
    have a5:D.length<=10000:=by have:=g3.len;have:=g3.tle;omega
    have a8:∀x∈E,Sub q.bk x.dC:=fun x hx=>by
      obtain⟨j,hj, -,rfl⟩:=kG.1 (g3.perm.mem_iff.1 hx)
      exact g3.sub _ (C9 hj)
    have fC:=foldC J ⟨q,E,B,t',true,⟨⟨g,k,p⟩,C,u,0,zB⟩⟩ a8 T E.length 0 sm u ⟨⟨g,k,p⟩,⟨g,k,p⟩⟩ (Int.le_refl _) H
    have fR:=foldR J (t:=(t':Int)) (l:=D) (X:=g) (Y:=k) (Z:=p) (tm:=C) (m:=u) g3.sub a5 D.length 0 za u ⟨⟨g,k,p⟩,⟨g,k,p⟩⟩ H
    have e0:((0:Nat):Int)=0:=rfl
    rw [e0,ED]at fC fR
    have I:E.foldl (gFo u) (u,⟨⟨g,k,p⟩,⟨g,k,p⟩⟩)=(dF D 0).foldl (gFo u) (u,⟨⟨g,k,p⟩,⟨g,k,p⟩⟩):=List.Perm.foldl_eq' g3.perm (fun x _ y _ z=>gFo_comm u z x y) _
    have O:dE (dN ⟨q,E,B,t',true,⟨⟨g,k,p⟩,C,u,0,zB⟩⟩) ((0:Int),u,⟨⟨g,k,p⟩,⟨g,k,p⟩⟩)=some ((dF D 0).foldl (gFo u) (u,⟨⟨g,k,p⟩,⟨g,k,p⟩⟩)):=by rw [<-I];exact fC
    have Q:dE (eT ((t':Int),D,g,k,p,C,u)) ((0:Int),u,g,k,p,g,k,p)=some (let r:=(dF D 0).foldl (gFo u) (u,⟨⟨g,k,p⟩,⟨g,k,p⟩⟩);(r.1,r.2.bh.fX,r.2.bh.fY,r.2.bh.fZ,r.2.av.fX,r.2.av.fY,r.2.av.fZ)):=fR
    refine⟨(⟨⟨g,k,p⟩,C,u,((dF D 0).foldl (gFo u) (u,⟨⟨g,k,p⟩,⟨g,k,p⟩⟩)).1,((dF D 0).foldl (gFo u) (u,⟨⟨g,k,p⟩,⟨g,k,p⟩⟩)).2⟩,0),?_,?_,fun _=>?_⟩
    · show((dE (dN ⟨q,E,B,t',true,⟨⟨g,k,p⟩,C,u,0,zB⟩⟩) ((0:Int),u,⟨⟨g,k,p⟩,⟨g,k,p⟩⟩)).bind _)=_
      rw [O,zc]
    · rw [Q,zc];rfl
    · have key:∀(L:List Item)(st:Int×ah),(∀x∈L,Sub q.bk x.dC)->Sub q.bk st.2->Sub q.bk (L.foldl (gFo u) st).2:=by
        intro L
        induction L with
        |nil=>intro st _ h;exact h
        |cons x L ih=>
          intro st hL h
          rw [F2]
          refine ih _ (fun y hy=>hL y (by simp [hy])) ?_
          unfold gFo;split
          · exact hull_ok h (hL x sm)
          · exact h
      refine key _ _ (fun x hx=>?_) H
      obtain⟨j,hj, -,rfl⟩:=kG.1 hx
      exact g3.sub _ (C9 hj)
  · have G:dE (cu tol q) ((1:Int),(0:Int),false,(al.mk (aa.mk 0 0 0) 0 0 0 (ah.mk (aa.mk 0 0 0) (aa.mk 0 0 0))),hp)=some (.inr (none,25)):=g1
    rw [G,g2]
    exact⟨(zL,25),rfl,rfl,fun h=>by cases h⟩
end Go.Dw.Ss
set_option maxRecDepth 100000
set_option maxHeartbeats 4000000
namespace Go.Dw.Ss
open Go.Dw Go.Proofs
def zB0:ah:=⟨⟨0,0,0⟩,⟨0,0,0⟩⟩
def zPr:ai:=⟨zB0,⟨0,[],[]⟩,[],0⟩
noncomputable def qP (s:aj) (v:ac) (L:List Pick):ai:=⟨s.ae.bk,s.ae.bJ,L.map (φ s v),s.ae.dL⟩
structure Mat(s:aj)(v:ac)(l L:List Pick):Prop where
  set:oF s
  val:cw s=some 0
  gat:ew s v l=some (⟨L,L.map (φ s v),L.map (ψ v)⟩,0)
  ref:jT s v l=some L
  len:L.length<=20
  all:∀p∈L,SLen p∧U s v p=true
  inv:gl v=some true
theorem mat_two(s:aj){v:ac}(a:IA v){l:List Pick}(f:LS l):
    (∃e:Int,e≠0∧ew s v l=some (⟨[],[],[]⟩,e)∧ef s v l=some (zPr,e))∨∃L,Mat s v l L:=by
  unfold ef ew
  rcases set_two s with⟨c,e2,hs⟩|⟨c,e2⟩
  rotate_left
  · rw [c,e2];exact .inl ⟨27,by decide,rfl,rfl⟩
  rw [c,e2,val_eq a,nm a]
  simp only [zc,bne_self_eq_false,Cb,if_false]
  cases j:Iv.vI v.bg with
  |false=>exact .inl ⟨1,by decide,rfl,rfl⟩
  |true=>
    obtain⟨x,r,t,y,u⟩:=sorts_eq (l:=l) (by have:=f.1;omega)
    have g:∀p∈x,SLen p:=fun p hp=>f.2 p (u p hp)
    have q:x.length<=20:=by have:=f.1;omega
    have k:=F6 (U s v) x
    refine .inr ⟨x.filter (U s v),hs,e2,?_,?_,za,fun p hp=>⟨g p (List.mem_filter.1 hp).1,(List.mem_filter.1 hp).2⟩,by rw [nm a,j]⟩
    · unfold ew
      rw [c,val_eq a,j]
      simp only [zc,bne_self_eq_false,Cb,if_false,FN]
      rw [r,zc,gather_eq hs e2 a g za,zc]
    · unfold jT
      rw [t,zc,picks_eq hs e2 a g za,zc]
theorem pr_loop{s:aj}{v:ac}(f:IA v){l L:List Pick}(h:Mat s v l L):dE (ie L s v) ((0:Int),[])=some (L.map (φ s v)):=by
  refine Et ?_
  refine Ez (fun st=>∃i:Nat,st=((i:Int),(L.take i).map (φ s v))∧i<=L.length) (fun st=>((L.length:Int)-st.1).toNat) ?_ ⟨0,rfl,CG _⟩
  rintro st ⟨i,rfl,i1⟩
  have hlen:=h.len
  unfold ie
  dsimp only
  refine FC (fun j=>?_) (fun g=>FH (by rw [Fe za]))
  have hi:i<L.length:=by omega
  obtain⟨a1,a2⟩:=h.all _ (C9 hi)
  obtain⟨k,p, -,e2,a⟩:=used_U h.set h.val f a1
  obtain⟨-, -,c, -⟩:=a a2
  rw [j0 rfl hi,zc,e2,zc,hP so,zc,w64 za za]
  exact FB ⟨i+1,by rw [pn hi,Dl,List.map_cons,List.map_nil,c];rfl,za⟩ zb
theorem cloneO_at{α:Type}{b:Nat}{l:List α}(h:l.length*b<=140737488355328):qq b l=some l:=by unfold qq;rw [if_pos h]
theorem pr_two{s:aj}{v:ac}(j:IA v){l L:List Pick}(h:Mat s v l L):
    (L=[]∧eQ ⟨L,L.map (φ s v),L.map (ψ v)⟩ s=some (zPr,24)∧ef s v l=some (zPr,24))∨
    (eQ ⟨L,L.map (φ s v),L.map (ψ v)⟩ s=some (qP s v L,0)∧ef s v l=some (qP s v L,0)∧PVR (qP s v L)):=by
  have hlen:=h.len
  have g:=h.set.tab
  have h1:=g.len;have y:=g.same
  unfold eQ ef
  rw [h.val,h.inv]
  simp only [zc,bne_self_eq_false,Cb,if_false,FN]
  rw [h.ref,zc,pr_loop j h,zc,DT]
  by_cases c:L.length=0
  · left
    refine⟨List.length_eq_zero_iff.1 c,?_,?_⟩
    · rw [if_pos (by simp [c])];rfl
    · rw [if_pos (by simp [c])];rfl
  · right
    have r:((L.length:Int)==0)=false:=by simp;intro e;rw [e]at c;simp at c
    rw [r]
    simp only [Cb,if_false]
    rw [if_neg so,if_neg so,cloneO_at za,cloneO_at za]
    refine⟨rfl,rfl,h.set.box,g,by unfold qP;rw [DT];omega,h.set.cap,fun a f=>?_⟩
    obtain⟨p,hp,rfl⟩:=List.mem_map.1 f
    obtain⟨a1,a2⟩:=h.all p hp
    obtain⟨x,z, -,e2,t⟩:=used_U h.set h.val j a1
    obtain⟨-, -, -,b1,b2,k,u,q⟩:=t a2
    exact⟨b1,b2,k,za,q⟩
theorem est_two{s:aj}{v:ac}(a:IA v){l L:List Pick}(h:Mat s v l L){b:ah}(k:BoxP b):
    ∃r,gA ⟨L,L.map (φ s v),L.map (ψ v)⟩ s b=some r∧jC s v l b=some (r,0)∧r.length<=20∧∀e∈r,e.bh<=e.av:=by
  have hlen:=h.len
  obtain ⟨r, c, f, x, q⟩ := est_loops s a b (L := L) za (fun p hp => by
    obtain⟨a1,a2⟩:=h.all p hp
    obtain⟨t,u, -, -,j⟩:=used_U h.set h.val a a1
    exact(j a2).2.1) L.length 0 za [] sm sm
  have g:((0:Nat):Int)=0:=rfl
  rw [g]at c f
  refine⟨r,?_,?_,za,q⟩
  · unfold gA
    rw [c,zc]
  · unfold jC
    rw [h.val,h.inv,gC,decide_eq_true k]
    simp only [zc,bne_self_eq_false,Cb,if_false,FN]
    rw [h.ref,zc,f,zc]
theorem Solve_eq(s:aj){v:ac}(f:IA v){l:List Pick}(p:LS l):∃r,ky s v l=some r∧mw s v l=some r∧r.1.mD.length<=20:=by
  unfold ky mw
  rcases mat_two s f p with⟨e,c,h1,k⟩|⟨L,h⟩
  · rw [h1,k]
    have:(e != 0)=true:=by simp [c]
    simp only [zc,this,if_true]
    exact⟨_,rfl,rfl,sm⟩
  rw [h.gat]
  simp only [zc,bne_self_eq_false,Cb,if_false]
  rcases pr_two f h with⟨rfl,g,j⟩|⟨g,j,q⟩
  · rw [g,j]
    exact⟨_,rfl,rfl,sm⟩
  rw [g,j]
  simp only [zc,bne_self_eq_false,Cb,if_false]
  obtain⟨x,B,C,D⟩:=Locate_eq q s.bz
  rw [B,C]
  simp only [zc]
  by_cases c:x.2=0
  rotate_left
  · have:(x.2 != 0)=true:=by simp [c]
    simp only [this,if_true]
    exact⟨_,rfl,rfl,sm⟩
  have:(x.2 != 0)=false:=by simp [c]
  simp only [this,Cb,if_false]
  obtain⟨r,t,u,G,z⟩:=est_two f h ((D c).ok h.set.box)
  rw [t,u]
  simp only [zc]
  rw [h.ref]
  have hlen:=h.len
  cases r with
  |nil=>
    have:jo []=some (⟨0,0⟩,24):=rfl
    rw [this]
    exact⟨_,rfl,rfl,by simpa using hlen⟩
  |cons a r=>
    obtain⟨y,E,F⟩:=network_eq (l:=a::r) za sm z
    rw [E,F,if_pos sm]
    exact⟨_,rfl,rfl,by simpa using hlen⟩
end Go.Dw.Ss
