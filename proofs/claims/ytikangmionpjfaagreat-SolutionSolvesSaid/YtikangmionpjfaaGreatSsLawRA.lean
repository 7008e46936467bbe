
import Derived.Test.YtikangmionpjfaaGreatSsFn
import Derived.Test.YtikangmionpjfaaGreatDwOk
import Derived.KernelRfl
import Derived.Test.YtikangmionpjfaaGreatDwPlain
set_option linter.unusedVariables false
set_option linter.unusedSimpArgs false
open Int renaming add_zero->EO, fdiv_eq_ediv_of_nonneg->EP, le_ediv_iff_mul_le->ER, le_of_lt->ES, le_refl->ET, le_total->EU, mul_comm->EV, mul_le_mul->EW, mul_nonneg->EX, mul_nonneg_of_nonpos_of_nonpos->EY, natCast_add->EZ, natCast_mul->E0, natCast_pow->E1, neg_mul_neg->E2, one_mul->E3, pow_add->E4, pow_succ->E5, tdiv_eq_ediv_of_nonneg->E6, tdiv_le_self->E7, tdiv_nonneg->E8, tmod_lt_of_pos->E9, toNat_natCast->DQ, zero_add->Ea
open List renaming all_cons->EA, drop_eq_getElem_cons->Eb, drop_eq_nil_of_le->Ec, find?->Ed, find?_some->Ee, getD_eq_getElem?_getD->D7, getElem?_eq_none->Ef, getElem?_set_ne->CR, getElem?_set_self->CS, getElem_mem->C9, getElem_of_mem->Eg, length->Eh, length_append->DA, length_cons->CT, length_nil->CU, mem_append->Dd, mem_of_find?_eq_some->Ei, mem_singleton->De, range->CC, replicate->B5, set_getElem_self->Ej, take_length->Ek
open Nat renaming add_sub_cancel->El, eq_zero_or_pos->Dv, le_refl->B6, mod_eq_of_lt->Em, pow_le_pow_right->En, zero_le->CG
open Go.IntKind renaming wrap->Dt, wrap_i64->Eo
open Option renaming bind_fun_some->Ep, getD_some->Ds
open Go.Dw.Ok renaming app->Er, bind->Es, eq->Et, get->Eu, iteB->Ew, iteND->Ey, loop->Ez, mod->FA, nx->FB, pk->FC, q7->FD, quo->FE, ret->FF, set->FG, st->FH, tB->FI, upto->FJ
open Bool renaming and_assoc->FK, and_eq_true->C4, and_true->FL, false_eq_true->Cb, not_eq_true'->FM, not_true->FN, or_eq_true->FO, true_and->FP
open Classical renaming byContradiction->FQ

set_option maxRecDepth 100000
set_option maxHeartbeats 4000000
namespace Go.Dw.Ss
open Go.Dw Go.Proofs
def Dg(l:List Int):Prop:=∀x∈l,0<=x∧x<=1073741823
theorem shr30{n:Int}(a:0<=n):pJ .i64 n 30=n / 1073741824:=by
  show n.fdiv (2 ^ (min (30:Int).toNat 64))=n / 1073741824
  rw [EP _ (by decide)]
  rfl
theorem mg{v:Int}(h:0<=v):tX v 1073741824=some (v%1073741824):=by
  unfold tX;rw [if_neg (by decide),Int.tmod_eq_emod_of_nonneg h]
theorem quo_at{v:Int}(h:0<=v)(h1:v<=9223372036854775807):qa .i64 v 1073741824=some (v / 1073741824):=by
  unfold qa;rw [if_neg (by decide),E6 h,w64 za za]
theorem dig_lt{l:List Int}{k:Nat}(h:k<l.length):iR l k=some l[k]:=by
  unfold iR
  rw [if_neg so,j0 rfl h];rfl
theorem dig_ge{l:List Int}{k:Nat}(h:l.length<=k):iR l k=some 0:=by
  unfold iR
  rw [if_pos so]
theorem Dg.get{l:List Int}(h:Dg l){k:Nat}(hk:k<l.length):0<=l[k]∧l[k]<=1073741823:=h _ (C9 hk)
theorem Dg.set{l:List Int}(h:Dg l){k:Nat}{x:Int}(a:0<=x∧x<=1073741823):Dg (l.set k x):=fun y c=>by
  rcases List.mem_or_eq_of_mem_set c with h1|rfl
  · exact h y h1
  · exact a
theorem getD_set_ne{l:List Int}{i j:Nat}{x:Int}(h:i≠j):(l.set i x).getD j 0=l.getD j 0:=by
  rw [D7,D7,CR h]
theorem getD_set_eq{l:List Int}{i:Nat}{x:Int}(h:i<l.length):(l.set i x).getD i 0=x:=by
  rw [D7,CS h];rfl
theorem fB{l:List Int}{i:Nat}(h:i<l.length):l.getD i 0=l[i]:=by
  rw [D7,zd h];rfl
theorem AI{l:List Int}{i:Nat}(h:i<l.length)(a:l[i]=0):l.set i 0=l:=by
  apply List.ext_getElem?
  intro j
  by_cases e:i=j
  · subst e;rw [CS h,zd h,a]
  · rw [CR e]
theorem row_eq(a b:List Int)(i:Nat)(hi:i<a.length)(I:Dg a)(J:Dg b)(C:a.length<=1000)(D:b.length<=1000):∀d k:Nat,k+d=b.length->∀(c:Int)(o:List Int),0<=c->c<=1073741823->Dg o->o.length=a.length+b.length->o.getD (i+b.length) 0=0->
    ∃r,dE (dm b i a[i]) (c,(k:Int),o)=some ((i:Int),r)∧dE (dJ b i a) (c,(k:Int),o)=some ((i:Int),r)∧Dg r∧r.length=o.length∧(∀j,i+b.length<j->r.getD j 0=o.getD j 0)∧
      ((d=0->c≠0∨(1<=b.length∧o.getD (i+b.length-1) 0≠0))->(∀h:0<d,1<=a[i]∧1<=b.getD (b.length-1) 0)->1<=b.length->r.getD (i+b.length) 0≠0∨r.getD (i+b.length-1) 0≠0)
  |0,k,hk,c,o,p,G,q,L,F=>by
    have hk:k=b.length:=by omega
    subst hk
    have f:i+b.length<o.length:=by omega
    have l:o[i+b.length]=0:=by rw [<-fB f];exact F
    have t:dm b i a[i] (c,(b.length:Int),o)=some (.next (0,((b.length+1:Nat):Int),o.set (i+b.length) c)):=by
      unfold dm
      dsimp only
      rw [w64 (n := (b.length : Int) + 1) za za, if_pos so, w64 (n := (i : Int) + b.length) za za, if_pos so, ql za za, zc, j0 (i := i + b.length) za f, zc,
        dig_ge (B6 _),zc,l,Int.mul_zero,w64 (n:=0) za za,EO,w64 (n:=0) za za,EO,w64 (n:=c) za za,mg p,zc,zc,uL (i:=i+b.length) za f,zc,shr30 p]
      rw [show c / 1073741824=0 by omega,show c%1073741824=c by omega]
      rfl
    have e2:dm b i a[i] (0,((b.length+1:Nat):Int),o.set (i+b.length) c)=some (.stop ((i:Int),o.set (i+b.length) c)):=by
      unfold dm
      dsimp only
      rw [w64 (n:=(b.length:Int)+1) za za,if_neg sm]
    refine⟨o.set (i+b.length) c,by rw [pe t,o0 e2],?_,q.set ⟨p,G⟩,sm,fun j K=>getD_set_ne za,fun h _ _=>?_⟩
    · by_cases hc:0<c
      · have u:dJ b i a (c,(b.length:Int),o)=some (.next (0,((b.length+1:Nat):Int),o.set (i+b.length) c)):=by
          unfold dJ
          dsimp only
          rw [if_neg sm,if_pos (by simpa using hc)]
          unfold la k9
          rw [w64 (n := (i : Int) + b.length) za za, ql za za, zc, j0 (i := i + b.length) za f, zc, if_neg sm, l, EO, w64 (n := c) za za, mg p, zc, zc,
            uL (i:=i+b.length) za f,zc,quo_at p za,zc,w64 (n:=(b.length:Int)+1) za za]
          rw [show c / 1073741824=0 by omega,show c%1073741824=c by omega]
          rfl
        have O:dJ b i a (0,((b.length+1:Nat):Int),o.set (i+b.length) c)=some (.stop ((i:Int),o.set (i+b.length) c)):=by
          unfold dJ
          dsimp only
          rw [if_neg so,if_neg sm]
        rw [pe u,o0 O]
      · have z:c=0:=by omega
        subst z
        rw [AI f l]
        apply o0
        unfold dJ
        dsimp only
        rw [if_neg sm,if_neg sm]
    · rcases h rfl with h|⟨h1,h⟩
      · left;rw [getD_set_eq f];exact h
      · right;rw [getD_set_ne za];exact h
  |d+1,k,hk,c,o,p,G,q,L,F=>by
    have g:k<b.length:=by omega
    have f:i+k<o.length:=by omega
    have N:=I.get hi;have E:=J.get g;have ho:=q.get f
    have hp:0<=a[i]*b[k]∧a[i]*b[k]<=1073741823*1073741823:=⟨EX N.1 E.1,EW N.2 E.2 E.1 za⟩
    generalize Y:c+(o[i+k]+a[i]*b[k])=v
    have v0:0<=v:=by omega
    have v1:v<=1152921504606846975:=by omega
    have t:dm b i a[i] (c,(k:Int),o)=some (.next (v / 1073741824,((k+1:Nat):Int),o.set (i+k) (v%1073741824))):=by
      unfold dm
      dsimp only
      rw [w64 (n := (b.length : Int) + 1) za za, if_pos so, w64 (n := (i : Int) + k) za za, if_pos so, ql za za, zc, j0 (i := i + k) za f, zc,
        dig_lt g,zc,w64 (n:=a[i]*b[k]) za za,w64 (n:=o[i+k]+a[i]*b[k]) za za,Y,w64 (n:=v) za za,mg v0,zc,zc,uL (i:=i+k) za f,zc,shr30 v0,w64 (n:=(k:Int)+1) za za]
      rfl
    have u:dJ b i a (c,(k:Int),o)=some (.next (v / 1073741824,((k+1:Nat):Int),o.set (i+k) (v%1073741824))):=by
      unfold dJ
      dsimp only
      rw [if_pos so]
      unfold la k9
      rw [w64 (n := (i : Int) + k) za za, ql za za, zc, j0 (i := i + k) za f, zc, if_pos so, j0 rfl hi, zc, j0 rfl g, zc,
        w64 (n:=c+o[i+k]) za za,w64 (n:=a[i]*b[k]) za za,show c+o[i+k]+a[i]*b[k]=v by omega,w64 (n:=v) za za,mg v0,zc,zc,
        uL (i:=i+k) za f,zc,quo_at v0 za,zc,w64 (n:=(k:Int)+1) za za]
      rfl
    obtain⟨r,r1,r2,r3,r4,r5,r6⟩:=row_eq a b i hi I J C D d (k+1) za (v / 1073741824) (o.set (i+k) (v%1073741824)) za za (q.set ⟨za,za⟩) (by simpa using L) (by rw [getD_set_ne za];exact F)
    refine⟨r,by rw [pe t,r1],by rw [pe u,r2],r3,by rw [r4];simp,fun j K=>by rw [r5 j K,getD_set_ne za],fun _ Q H=>?_⟩
    have x:=Q za
    refine r6 (fun T=>?_) (fun _=>x) H
    subst T
    have B:k=b.length-1:=by omega
    have y:1<=b[k]:=by rw [<-fB g,B];exact x.2
    have W:1<=a[i]*b[k]:=by
      have:=EW x.1 y za za;omega
    by_cases X:v / 1073741824=0
    · right
      refine⟨H,?_⟩
      rw [show i+b.length-1=i+k by omega,getD_set_eq f]
      omega
    · exact .inl X
theorem rows_eq(a b:List Int)(B:Dg a)(C:Dg b)(f:a.length<=1000)(g:b.length<=1000):∀d i:Nat,i+d=a.length->∀o:List Int,Dg o->o.length=a.length+b.length->(∀j,i+b.length<=j->o.getD j 0=0)->
    ∃r,dE (dG a b) ((i:Int),o)=some r∧dE (gV a b) ((i:Int),o)=some r∧Dg r∧r.length=o.length∧(0<d->1<=a.getD (a.length-1) 0->1<=b.length->1<=b.getD (b.length-1) 0->∃x∈r,x≠0)
  |0,i,hi,o,k,D,t=>by
    refine⟨o,o0 ?_,o0 ?_,k,rfl,sm⟩
    · unfold dG;dsimp only;rw [if_neg so]
    · unfold gV;dsimp only;rw [if_neg so]
  |d+1,i,hi,o,k,D,t=>by
    have c:i<a.length:=by omega
    obtain⟨r,E,F,L,W,N,O⟩:=row_eq a b i c B C f g b.length 0 za 0 o za za k D (t _ (B6 _))
    have G:dG a b ((i:Int),o)=some (.next (((i+1:Nat):Int),r)):=by
      unfold dG
      dsimp only
      rw [if_pos so,j0 rfl c,zc]
      have:((0:Nat):Int)=0:=rfl
      rw [this]at E
      rw [E,zc,w64 (n:=(i:Int)+1) za za]
      rfl
    have e2:gV a b ((i:Int),o)=some (.next (((i+1:Nat):Int),r)):=by
      unfold gV
      dsimp only
      rw [if_pos so]
      have:((0:Nat):Int)=0:=rfl
      rw [this]at F
      rw [F,zc,w64 (n:=(i:Int)+1) za za]
      rfl
    obtain⟨q,u,I,J,T,K⟩:=rows_eq a b B C f g d (i+1) za r L za (fun j Q=>by rw [N j za];exact t j za)
    refine⟨q,by rw [pe G,u],by rw [pe e2,I],J,za,fun _ h1 y z=>?_⟩
    rcases Dv d with l|l
    · subst l
      have H:q=r:=by
        have:dE (dG a b) (((i+1:Nat):Int),r)=some r:=o0 (by unfold dG;dsimp only;rw [if_neg so])
        rw [this]at u;exact(Option.some.inj u).symm
      subst H
      have p:=O (fun h=>za) (fun _=>⟨by rw [<-fB c,show i=a.length-1 by omega];exact h1,z⟩) y
      rcases p with h|h
      · refine⟨_,?_,h⟩
        rw [fB za];exact C9 _
      · refine⟨_,?_,h⟩
        rw [fB za];exact C9 _
    · exact K l h1 y z
theorem mult_same{a b:List Int}(l:Dg a)(p:Dg b)(c:a.length<=1000)(f:b.length<=1000):∃r,Dg r∧r.length=a.length+b.length∧gB a b=gJ r∧mS a b=gJ r∧(1<=a.length->1<=a.getD (a.length-1) 0->1<=b.length->1<=b.getD (b.length-1) 0->∃x∈r,x≠0):=by
  have hm:mkO (Dt .i64 ((a.length:Int)+(b.length:Int))) (0:Int) 8=some (B5 (a.length+b.length) 0):=by
    rw [w64 za za]
    unfold mkO
    rw [if_pos ⟨za,za,za⟩]
    congr 2
  obtain ⟨r, g, k, t, u, y⟩ := rows_eq a b l p c f a.length 0 za (B5 (a.length + b.length) 0) (fun x q => by rw [List.eq_of_mem_replicate q]; omega) sm (fun j _ => by
    rw [D7,List.getElem?_replicate];split<;>rfl)
  refine⟨r,t,by rw [u];simp,?_,?_,fun h=>y za⟩
  · unfold gB
    have e:((0:Nat):Int)=0:=rfl
    rw [e]at g
    rw [hm,zc,g,zc,Ep]
  · unfold mS
    have e:((0:Nat):Int)=0:=rfl
    rw [e]at k
    rw [hm,zc,k,zc,Ep]
    rfl
end Go.Dw.Ss
set_option maxRecDepth 100000
set_option maxHeartbeats 4000000
namespace Go.Dw.Ss
open Go.Dw Go.Proofs
def Top(l:List Int):Prop:=l≠ []->l.getD (l.length-1) 0≠0
theorem trim_of{l:List Int}(h:Top l)(a:l.length<=4000):gJ l=some l:=by
  unfold gJ
  rw [Ep]
  apply o0
  unfold lm
  by_cases e:l=[]
  · subst e;rw [if_neg sm]
  · have hp:0<l.length:=List.length_pos_iff.2 e
    rw [if_pos (by simp;exact hp),w64 za za,j0 (i:=l.length-1) za za,zc,if_neg]
    have:=h e
    rw [fB za]at this
    simpa using this
theorem trim_zero{l:List Int}(a:l.length<=4000):gJ (l++[0])=gJ l:=by
  unfold gJ
  rw [Ep,Ep]
  apply pe
  unfold lm
  rw [if_pos sm,w64 sm so,j0 (i:=l.length) sm sm,zc,if_pos sm]
  unfold ue
  rw [if_pos ⟨sm,sm,so⟩]
  simp
theorem trim_ok{l:List Int}(u:l.length<=4000):Ok (gJ l) (fun r=>r.length<=l.length∧Top r∧(Dg l->Dg r)∧((∃x∈l,x≠0)->r≠ [])):=by
  unfold gJ
  rw [Ep]
  refine Ez (fun s:List Int=>s.length<=l.length∧(Dg l->Dg s)∧((∃x∈l,x≠0)->∃x∈s,x≠0)) (fun s=>s.length) ?_ ⟨B6 _,id,id⟩
  rintro s ⟨i0,i1,i2⟩
  unfold lm
  refine FC (fun j => ?_) (fun h => FH ⟨i0, fun e => (e (List.length_eq_zero_iff.1 za)).elim, i1, fun c => by
    obtain⟨x,c, -⟩:=i2 c
    intro e;subst e;cases c⟩)
  rw [w64 za za]
  refine Es (Eu za za) (fun a t => FD (fun g => ?_) (fun g => FH ⟨i0, fun _ => ?_, i1, fun c => by
    obtain⟨x,c, -⟩:=i2 c
    intro e;subst e;cases c⟩))
  · obtain⟨q,rfl⟩:∃q,s=q++[0]:=by
      have f:s≠ []:=by intro e;subst e;simp at j
      refine⟨s.dropLast,?_⟩
      have:=t.2
      rw [show((s.length:Int)-1).toNat=s.length-1 by omega,zd za]at this
      have:=Option.some.inj this
      rw [<-List.getLast_eq_getElem (by exact f),g]at this
      rw [<-this]
      exact(List.dropLast_concat_getLast f).symm
    refine Es (Ok.cut za sm so) (fun y p=>?_)
    have p:y=q:=by rw [p];simp
    subst p
    simp only [DA,CT,CU]at i0
    refine FB ⟨za,fun h x c=>i1 h x (List.mem_append_left _ c),fun h=>?_⟩ sm
    obtain⟨x,c,k⟩:=i2 h
    rcases List.mem_append.1 c with h|h
    · exact⟨x,h,k⟩
    · rw [List.mem_singleton.1 h]at k;exact(k rfl).elim
  · rw [D7]
    have:=t.2
    rw [show((s.length:Int)-1).toNat=s.length-1 by omega]at this
    rw [this];exact g
def okD(x:Int):Bool:=decide (0<=x)&&decide (x<=1073741823)
def vN(l:List Int):Bool:=decide (l.length<=64)&&(l.all okD&&(decide (l=[])||decide (l.getD (l.length-1) 0≠0)))
theorem mi{l:List Int}:vN l=true↔l.length<=64∧Dg l∧Top l:=by
  unfold vN Top Dg okD
  simp only [C4,decide_eq_true_eq,List.all_eq_true,FO]
  constructor
  · rintro⟨h1,a,c⟩
    exact⟨h1,a,fun f=>c.resolve_left f⟩
  · rintro⟨h1,a,c⟩
    refine⟨h1,a,?_⟩
    by_cases e:l=[]
    · exact .inl e
    · exact .inr (c e)
theorem allD{l:List Int}(C:l.length<=4000):cQ l=some (!l.all okD):=by
  refine Et ?_
  unfold cQ eX
  refine Es (P:=fun r:Int=>(decide (r>=0))= !l.all okD) ?_ (fun r y=>FF y)
  refine Es (P:=fun o:Unit⊕Int=>match o with| .inl _=>l.all okD=true| .inr r=>0<=r∧l.all okD=false) (FJ l.length za (fun i=>∀k,(h:k<l.length)->(k:Int)<i->okD l[k]=true) (fun k _ h=>za) (fun i B h1 J=>?_)) (fun o ho=>?_)
  · unfold ej l5
    refine FC (fun u => ?_) (fun t => FH (List.all_eq_true.2 fun x z => by
      obtain⟨k,hk,rfl⟩:=Eg z
      exact J k hk za))
    obtain⟨j,rfl⟩:∃j:Nat,i=j:=⟨i.toNat,za⟩
    refine Es (Ok.of (j0 rfl za) rfl) (fun a(f:l[j]'za=a)=>?_)
    have p:=f.symm
    refine Es (P:=fun b=>b= !okD a) (FC (fun h=>FF (by unfold okD;rw [show decide (0<=a)=false from decide_eq_false za];rfl)) (fun h=>FF (by unfold okD;rw [show decide (0<=a)=true from decide_eq_true za,FP];by_cases g:a<=1073741823<;>simp [g]<;>omega))) (fun b c=>?_)
    rw [w64 za za]
    subst c
    refine Ew (fun c=>FH ⟨za,?_⟩) (fun c=>FB ⟨⟨za,za⟩,fun k hk q=>?_⟩ za)
    · refine Bool.eq_false_iff.2 fun h=>?_
      have:=List.all_eq_true.1 h a (by rw [p];exact C9 _)
      rw [this]at c;cases c
    · by_cases e:k=j
      · subst e;rw [<-p];simpa using c
      · exact J k hk za
  · rcases o with _|r
    · refine FF ?_
      simp only at ho
      rw [ho];decide
    · refine FF ?_
      rw [ho.2];simp;exact ho.1
theorem nv_eq{l:List Int}(c:l.length<=4000):jN l=some (vN l):=by
  unfold jN vN
  by_cases h:l.length<=64
  · rw [if_neg so]
    by_cases e:l=[]
    · subst e
      rw [if_neg sm,allD sm]
      rfl
    · have hp:0<l.length:=List.length_pos_iff.2 e
      rw [if_pos (by simp;exact hp),w64 za za,j0 (i:=l.length-1) za za,zc,allD c]
      rw [decide_eq_true h,decide_eq_false e,fB za]
      by_cases a:l[l.length-1]=0
      · rw [if_pos (by simp [a])];simp [a]
      · rw [if_neg (by simp [a])];simp [a]
  · rw [if_pos so,decide_eq_false h];rfl
theorem rin_at(a b c:Int):cA a b c=some (decide (b<=a)&&decide (a<=c)):=by
  unfold cA
  by_cases h:b<=a
  · rw [if_pos so];simp [h]
  · rw [if_neg so];simp [h]
theorem nP{l:List Int}(z:l.length<=4000):eM l=some (vN l):=by
  refine Et ?_
  unfold eM
  refine Es (P:=fun o:Unit⊕Bool=>match o with| .inl _=>l.all okD=true| .inr r=>r=false∧l.all okD=false) (FJ l.length za (fun i=>∀k,(h:k<l.length)->(k:Int)<i->okD l[k]=true) (fun k _ h=>za) (fun i y h1 J=>?_)) (fun o ho=>?_)
  · unfold l7
    refine FC (fun t => ?_) (fun q => FH (List.all_eq_true.2 fun x u => by
      obtain⟨k,hk,rfl⟩:=Eg u
      exact J k hk za))
    obtain⟨j,rfl⟩:∃j:Nat,i=j:=⟨i.toNat,za⟩
    refine Es (Ok.of (j0 rfl za) rfl) (fun a(f:l[j]'za=a)=>?_)
    have g:=f.symm
    rw [rin_at,zc,w64 za za]
    refine Ok.uW (fun c=>FH ⟨rfl,?_⟩) (fun c=>FB ⟨⟨za,za⟩,fun k hk p=>?_⟩ za)
    · refine Bool.eq_false_iff.2 fun h=>?_
      have:=List.all_eq_true.1 h a (by rw [g];exact C9 _)
      unfold okD at this
      rw [this]at c;cases c
    · by_cases e:k=j
      · subst e;rw [<-g];exact c
      · exact J k hk za
  · unfold vN
    rcases o with _|r
    · simp only at ho
      rw [ho]
      refine FC (fun h=>?_) (fun h=>FF so)
      by_cases e:l=[]
      · subst e;exact FD (fun _=>FF sm) (fun h=>by simp at h)
      · have hp:0<l.length:=List.length_pos_iff.2 e
        refine FD (fun h=>za) (fun _=>?_)
        rw [w64 za za,j0 (i:=l.length-1) za za,zc]
        refine FF ?_
        rw [fB za,decide_eq_true za,decide_eq_false e]
        simp;rfl
    · rw [ho.2,ho.1];exact FF sm
theorem Top.get{l:List Int}(h:Top l)(a:Dg l)(c:1<=l.length):1<=l.getD (l.length-1) 0:=by
  have:=h (by intro e;subst e;simp at c)
  have f:=a.get (k:=l.length-1) za
  rw [fB za]at*
  omega
theorem lim_at{l:List Int}(h:Top l)(a:l.length<=4000):fq l=ed l:=by
  unfold fq ed
  rw [trim_of h a,zc]
theorem mulV{a b:List Int}(p:vN a=true)(q:vN b=true):∃r,gB a b=some r∧mS a b=some r∧Top r∧Dg r∧r.length<=128∧(a≠ []->b≠ []->r≠ []):=by
  obtain⟨a1,a2,a3⟩:=mi.1 p
  obtain⟨b1,b2,g⟩:=mi.1 q
  obtain⟨o,t,D,u,x,y⟩:=mult_same a2 b2 za za
  obtain⟨r,e,E,z,B,C⟩:=trim_ok (l:=o) za
  refine⟨r,by rw [u,e],by rw [x,e],z,B t,za,fun j k=>C ?_⟩
  have c:=List.length_pos_iff.2 j
  have f:=List.length_pos_iff.2 k
  exact y c (a3.get a2 c) f (g.get b2 f)
theorem Mul_eq{a b:List Int}(c:a.length<=4000)(f:b.length<=4000):∃r,nat_Mul a b=some r∧kJ a b=some r∧r.1.length<=64:=by
  unfold nat_Mul kJ nH
  rw [nv_eq c,nP c,zc,zc,nv_eq f,nP f]
  cases j:vN a with
  |false=>exact⟨_,rfl,rfl,sm⟩
  |true=>
    cases k:vN b with
    |false=>exact⟨_,rfl,rfl,sm⟩
    |true=>
      obtain⟨r,g,e2,l, -,p, -⟩:=mulV j k
      simp only [if_true,zc,FN,Cb,if_false,g,e2,lim_at l (show r.length<=4000 by omega)]
      unfold ed
      by_cases h:r.length<=64
      · rw [if_neg so];exact⟨_,rfl,rfl,h⟩
      · rw [if_pos so];exact⟨_,rfl,rfl,sm⟩
theorem From_eq{n:Int}(h:n<=9223372036854775807):∃r,oS n=some r∧m8 n=some r∧r.1.length<=4:=by
  unfold oS m8
  by_cases f:n<0
  · rw [if_pos (by simpa using f),if_pos (by simpa using f)];exact⟨_,rfl,rfl,sm⟩
  · rw [if_neg (by simpa using f),if_neg (by simpa using f)]
    have B:eL=fun s=>if 0<=s.1∧s.1<=9223372036854775807 then dO s else eL s:=by
      funext ⟨x,l⟩
      dsimp only
      by_cases a:0<=x∧x<=9223372036854775807
      · rw [if_pos a]
        unfold eL dO
        dsimp only
        rw [mg a.1,quo_at a.1 a.2,shr30 a.1]
        simp only [zc]
      · rw [if_neg a]
    have key:∀m:Nat,∀x:Int,0<=x->x<=9223372036854775807->x<1073741824 ^ m->∀l:List Int,l.length+m<=4->∃r,dE eL (x,l)=some r∧dE dO (x,l)=some r∧r.length<=4:=by
      intro m
      induction m with
      |zero=>
        intro x c _ p l y
        have:x=0:=by simp at p;omega
        subst this
        exact⟨l,o0 (by unfold eL;rfl),o0 (by unfold dO;rfl),za⟩
      |succ m z=>
        intro x c p t l y
        by_cases a:x>0
        · have q:pG l [x%1073741824] 8=some (l++[x%1073741824]):=by
            unfold pG;rw [if_pos so]
          have u:eL (x,l)=some (.next (x / 1073741824,l++[x%1073741824])):=by
            unfold eL;dsimp only
            rw [if_pos (by simpa using a),mg c,zc,q,zc,shr30 c]
          have e2:dO (x,l)=some (.next (x / 1073741824,l++[x%1073741824])):=by
            unfold dO;dsimp only
            rw [if_pos (by simpa using a),mg c,zc,q,zc,quo_at c p,zc]
          rw [E5]at t
          obtain⟨r,g,j,k⟩:=z (x / 1073741824) za za (Int.ediv_lt_of_lt_mul za t) (l++[x%1073741824]) so
          exact⟨r,by rw [pe u,g],by rw [pe e2,j],k⟩
        · refine⟨l,o0 (by unfold eL;dsimp only;rw [if_neg (by simpa using a)]),o0 (by unfold dO;dsimp only;rw [if_neg (by simpa using a)]),za⟩
    obtain⟨r,g,j,k⟩:=key 4 n za h za [] sm
    exact⟨(r,0),by rw [g];rfl,by rw [j];rfl,k⟩
end Go.Dw.Ss
set_option maxRecDepth 100000
set_option maxHeartbeats 4000000
namespace Go.Dw.Ss
open Go.Dw Go.Proofs
theorem dig_v{l:List Int}(h:Dg l)(k:Nat):iR l k=some (l.getD k 0)∧0<=l.getD k 0∧l.getD k 0<=1073741823:=by
  by_cases hk:k<l.length
  · rw [dig_lt hk,fB hk];exact⟨rfl,h.get hk⟩
  · rw [dig_ge za,D7,Ef za];exact⟨rfl,sm,sm⟩
theorem app_d{l:List Int}{x:Int}(h:l.length<=4000):pG l [x] 8=some (l++[x]):=by
  unfold pG;rw [if_pos so]
theorem add_step{a b:List Int}(p:Dg a)(q:Dg b){m:Nat}(hm:m=max a.length b.length){i:Nat}(hi:i<m)(r:m<=1000){c:Int}(t:0<=c)(u:c<=1){o:List Int}(ho:o.length<=2000):
    let v:=c+(a.getD i 0+b.getD i 0)
    fm b a (c,(i:Int),o)=some (.next (v / 1073741824,((i+1:Nat):Int),o++[v%1073741824]))∧ec a b (c,(i:Int),o)=some (.next (v / 1073741824,((i+1:Nat):Int),o++[v%1073741824])):=by
  obtain⟨a1,a2,a3⟩:=dig_v p i
  obtain⟨b1,b2,k⟩:=dig_v q i
  intro v
  have v0:0<=v:=by show 0<=c+_;omega
  have v1:v<=9223372036854775807:=by show c+_<=_;omega
  constructor
  · unfold fm
    dsimp only
    rw [show (if (b.length : Int) > (a.length : Int) then (b.length : Int) else (a.length : Int)) = (m : Int) by split <;> omega, w64 (n := (m : Int) + 1) za za, if_pos so, a1, zc, b1, zc,
      w64 (n:=a.getD i 0+b.getD i 0) za za,show c+(a.getD i 0+b.getD i 0)=v from rfl,w64 (n:=v) za za,mg v0,zc,app_d za,zc,shr30 v0,w64 (n:=(i:Int)+1) za za]
    rfl
  · have f:∀w:Int,w=v->jl o i w=some (.next (v / 1073741824,((i+1:Nat):Int),o++[v%1073741824])):=fun w hw=>by
      subst hw
      unfold jl
      rw [mg v0,zc,app_d za,zc,quo_at v0 v1,zc,w64 (n:=(i:Int)+1) za za]
      rfl
    have g:∀w:Int,w=c+a.getD i 0->jm i b o w=some (.next (v / 1073741824,((i+1:Nat):Int),o++[v%1073741824])):=fun w hw=>by
      subst hw
      unfold jm
      by_cases h:i<b.length
      · rw [if_pos so,j0 rfl h,zc]
        rw [fB h]at b2 k
        refine f _ ?_
        rw [w64 za za]
        show _=c+(_+b.getD i 0)
        rw [fB h];omega
      · rw [if_neg so]
        refine f _ ?_
        show _=c+(_+b.getD i 0)
        rw [D7 (l:=b),Ef (l:=b) za]
        simp
    have j:gT i a b o c=some (.next (v / 1073741824,((i+1:Nat):Int),o++[v%1073741824])):=by
      unfold gT
      by_cases h:i<a.length
      · rw [if_pos so,j0 rfl h,zc]
        refine g _ ?_
        rw [fB h]at a2 a3
        rw [w64 za za,fB h]
      · rw [if_neg so]
        refine g _ ?_
        rw [D7,Ef za]
        simp
    unfold ec
    dsimp only
    by_cases h:i<a.length
    · rw [if_pos so,j]
    · rw [if_neg so,if_pos so,j]
theorem Top_snoc{l:List Int}{x:Int}(h:x≠0):Top (l++[x]):=fun _=>by
  rw [D7];simp [h]
theorem add_loop{a b:List Int}(l:Dg a)(p:Dg b)(t:Top a)(u:Top b){m:Nat}(hm:m=max a.length b.length)(k:m<=1000):∀d i:Nat,i+d=m->∀(c:Int)(o:List Int),0<=c->c<=1->o.length=i->(d=0->c=0->Top o)->
    ∃r g,dE (fm b a) (c,(i:Int),o)=some g∧dE (ec a b) (c,(i:Int),o)=some r∧Top r∧g.length<=m+1∧r.length<=m+1∧(g=r∨g=r++[0])
  |0,i,hi,c,o,f,q,ho,x=>by
    have j:fm b a (c,(i:Int),o)=some (.next (0,((i+1:Nat):Int),o++[c])):=by
      unfold fm
      dsimp only
      rw [show (if (b.length : Int) > (a.length : Int) then (b.length : Int) else (a.length : Int)) = (m : Int) by split <;> omega, w64 (n := (m : Int) + 1) za za, if_pos so, dig_ge za, zc, dig_ge za, zc,
        EO,w64 (n:=0) za za,EO,w64 (n:=c) za za,mg f,zc,app_d za,zc,shr30 f,w64 (n:=(i:Int)+1) za za,show c / 1073741824=0 by omega,show c%1073741824=c by omega]
      rfl
    have e2:fm b a (0,((i+1:Nat):Int),o++[c])=some (.stop (o++[c])):=by
      unfold fm
      dsimp only
      rw [show(if(b.length:Int)>(a.length:Int)then(b.length:Int)else(a.length:Int))=(m:Int)by split<;>omega,w64 (n:=(m:Int)+1) za za,if_neg so]
    by_cases hc:c=0
    · subst hc
      refine⟨o,o++[0],by rw [pe j,o0 e2],o0 ?_,x rfl rfl,so,za,.inr rfl⟩
      unfold ec
      dsimp only
      rw [if_neg so,if_neg so,if_neg sm]
    · have y:ec a b (c,(i:Int),o)=some (.next (0,((i+1:Nat):Int),o++[c])):=by
        unfold ec
        dsimp only
        rw [if_neg so,if_neg so,if_pos so]
        unfold gT jm jl
        rw [if_neg so,if_neg so,mg f,zc,app_d za,zc,quo_at f za,zc,w64 (n:=(i:Int)+1) za za,show c / 1073741824=0 by omega,show c%1073741824=c by omega]
        rfl
      refine⟨o++[c],o++[c],by rw [pe j,o0 e2],?_,Top_snoc hc,so,so,.inl rfl⟩
      rw [pe y]
      apply o0
      unfold ec
      dsimp only
      rw [if_neg so,if_neg so,if_neg sm]
  |d+1,i,hi,c,o,f,q,ho,x=>by
    obtain⟨j,e2⟩:=add_step l p hm (i:=i) za k f q (o:=o) za
    obtain⟨-,a2,a3⟩:=dig_v l i
    obtain⟨-,b2,H⟩:=dig_v p i
    generalize I:c+(a.getD i 0+b.getD i 0)=v at j e2
    obtain ⟨r, g, B, C, D, E, F, G⟩ := add_loop l p t u hm k d (i + 1) za (v / 1073741824) (o ++ [v % 1073741824]) za za so (fun z J => Top_snoc (by
      subst z
      have:1<=v:=by
        by_cases h:b.length<=a.length
        · have:=t.get l za
          rw [show a.length-1=i by omega]at this;omega
        · have:=u.get p za
          rw [show b.length-1=i by omega]at this;omega
      omega))
    exact⟨r,g,by rw [pe j,B],by rw [pe e2,C],D,E,F,G⟩
theorem Add_eq{a b:List Int}(c:a.length<=4000)(f:b.length<=4000):∃r,nat_Add a b=some r∧od a b=some r∧r.1.length<=64:=by
  unfold nat_Add od nH
  rw [nv_eq c,nP c,zc,zc,nv_eq f,nP f]
  cases q:vN a with
  |false=>exact⟨_,rfl,rfl,sm⟩
  |true=>
    cases t:vN b with
    |false=>exact⟨_,rfl,rfl,sm⟩
    |true=>
      obtain⟨a1,a2,a3⟩:=mi.1 q
      obtain⟨b1,b2,l⟩:=mi.1 t
      obtain⟨r,x,g,j,k,z,B,y⟩:=add_loop a2 b2 a3 l (m:=max a.length b.length) rfl za (max a.length b.length) 0 za 0 [] za za rfl (fun _ _ h=>(h rfl).elim)
      have p:((0:Nat):Int)=0:=rfl
      rw [p]at g j
      have u:fq x=ed r:=by
        rcases y with rfl|rfl
        · exact lim_at k za
        · rw [<-lim_at k za]
          unfold fq
          rw [trim_zero za]
      simp only [if_true,zc,FN,Cb,if_false,g,j,u]
      unfold ed
      by_cases h:r.length<=64
      · rw [if_neg so];exact⟨_,rfl,rfl,h⟩
      · rw [if_pos so];exact⟨_,rfl,rfl,sm⟩
def I64(a:Int):Prop:= -9223372036854775808<=a∧a<=9223372036854775807
theorem mV(a:Int):I64 (Dt .i64 a):=by
  unfold I64;rw [Eo];omega
theorem lS{a:Int}(h:I64 a):∃r,dz a=some r∧eF a=some r∧r.length<=64:=by
  have c:=mV (0-a)
  unfold I64 at h c
  obtain⟨x,f,g,p⟩:=From_eq (n:=if(Dt .i64 (0-a))>a then(Dt .i64 (0-a))else a) (by split<;>omega)
  obtain⟨y,j,k,l⟩:=Mul_eq (a:=x.1) (b:=x.1) za za
  unfold dz eF
  exact⟨y.1,by rw [f,zc,j];rfl,by rw [g,zc,k];rfl,l⟩
theorem squared_eq(a:bB)(n d:Int):∃r,gd a n d=some r∧gK a n d=some r∧r.length<=64:=by
  unfold gd gK
  obtain⟨x,c,f,l⟩:=lS (mV ((Dt .i64 ((Dt .i64 (a.a0*d))*d))-(Dt .i64 ((Dt .i64 (a.a2*n))*n))))
  obtain⟨y,g,j,p⟩:=lS (mV ((Dt .i64 (a.a1*n))*d))
  obtain⟨z,k,z2,z3⟩:=Add_eq (a:=x) (b:=y) za za
  exact⟨z.1,by rw [c,zc,g,zc,k];rfl,by rw [f,zc,j,zc,z2];rfl,z3⟩
theorem sum_I64{l:List Int}(f:l.length<=4000):Ok (da l) I64:=by
  unfold da
  refine Es (P:=I64) (Ez (fun s:Int×Int=>(0<=s.2∧s.2<=l.length)∧I64 s.1) (fun s=>((l.length:Int)-s.2).toNat) ?_ ⟨⟨sm,sm⟩,by unfold I64;simp⟩) (fun o ho=>FF ho)
  rintro⟨s1,s2⟩ ⟨⟨i0,i1⟩,i2⟩
  simp only at i0 i1 i2
  unfold gN
  refine FC (fun c=>?_) (fun _=>FH i2)
  refine Es (Eu za za) (fun a _=>?_)
  rw [w64 (n:=s2+1) za za]
  exact FB ⟨⟨zb,zb⟩,mV _⟩ zb
theorem total_eq{l:List Int}(a:l.length<=4000):iy l=da l:=by
  rfl
structure StN(x:bq):Prop where
  num:I64 x.bI.a0
  den:I64 x.bG.a0
  taps:x.cf.length<=4000
  shift:0<=x.cn∧x.cn<=1000
theorem gain_eq{x:bq}(h:StN x)(n d:Int):∃r,lf x n d=some r∧nf x n d=some r.1∧r.1.bI.length<=64∧r.1.bG.length<=64∧(r.2=false->r.1.bG=[]):=by
  unfold lf nf
  by_cases f:x.ct=0
  · rw [f]
    obtain⟨a,a1,a2,a3⟩:=lS h.num
    obtain⟨b,b1,b2,c⟩:=lS h.den
    rw [a1,a2,b1,b2]
    exact⟨_,rfl,rfl,a3,c,fun e=>by cases e⟩
  · have g:(x.ct==0)=false:=by simp [f]
    rw [g]
    by_cases h1:x.ct=1
    · obtain⟨a,a1,a2,a3⟩:=squared_eq x.bI n d
      obtain⟨b,b1,b2,c⟩:=squared_eq x.bG n d
      rw [h1,a1,a2,b1,b2]
      exact⟨_,rfl,rfl,a3,c,fun e=>by simpa using e⟩
    · have j:(x.ct==1)=false:=by simp [h1]
      rw [j]
      obtain⟨s,s1,s2⟩:=sum_I64 h.taps
      obtain⟨a,a1,a2,a3⟩:=lS s2
      have hs:=h.shift
      have e:vB .i64 1 x.cn=some (uq .i64 1 x.cn):=by unfold vB;rw [if_neg za]
      have hw:Dt .u64 x.cn=x.cn:=IntWalk.u64_in _ za
      obtain⟨b,b1,b2,c⟩:=lS (a:=uq .i64 1 x.cn) (mV _)
      rw [total_eq h.taps,s1,hw,e]
      simp only [Cb,if_false,zc,a1,a2,b1,b2]
      exact⟨_,rfl,rfl,a3,c,fun e=>by cases e⟩
theorem vF_eq{f:bo}(h1:f.bI.length<=4000)(a:f.bG.length<=4000):fo f=some (vN f.bI&&(vN f.bG&&decide (f.bG≠ [])))∧ez f=some (vN f.bI&&(vN f.bG&&decide (f.bG≠ []))):=by
  unfold fo ez
  rw [nv_eq h1,nv_eq a,nP h1,nP a]
  cases vN f.bI<;>cases vN f.bG<;>simp [List.length_pos_iff]
theorem Times_eq{a b:bo}(h1:a.bI.length<=4000)(j:a.bG.length<=4000)(k:b.bI.length<=4000)(l:b.bG.length<=4000):
    ∃r,n9 a b=some r∧mu a b=some r∧(r.2=0->vN r.1.bI=true∧vN r.1.bG=true∧r.1.bG≠ [])∧(r.2≠0->r.1=⟨[],[]⟩)∧(a.bG=[]∨b.bG=[]->r.2≠0):=by
  unfold n9 mu
  rw [(vF_eq h1 j).1,(vF_eq h1 j).2,zc,zc]
  by_cases c:(vN a.bI&&(vN a.bG&&decide (a.bG≠ [])))=true
  · rw [c,(vF_eq k l).1,(vF_eq k l).2]
    by_cases f:(vN b.bI&&(vN b.bG&&decide (b.bG≠ [])))=true
    · rw [f]
      simp only [C4,decide_eq_true_eq]at c f
      obtain⟨x,z,B,p,C,H, -⟩:=mulV c.1 f.1
      obtain⟨y,D,E,q,F,I,G⟩:=mulV c.2.1 f.2.1
      have u:=G c.2.2 f.2.2
      unfold kJ
      rw [nP h1,nP k,nP j,nP l,c.1,c.2.1,f.1,f.2.1]
      simp only [zc,FN,Cb,if_false,z,B,D,E,lim_at p (show x.length<=4000 by omega),lim_at q (show y.length<=4000 by omega)]
      unfold ed
      by_cases t:x.length<=64
      · rw [if_neg so]
        by_cases g:y.length<=64
        · rw [if_neg so]
          refine⟨(⟨x,y⟩,0),rfl,rfl,fun _=>⟨mi.2 ⟨t,C,p⟩,mi.2 ⟨g,F,q⟩,u⟩,fun h=>(h rfl).elim,fun h=>(h.elim c.2.2 f.2.2).elim⟩
        · rw [if_pos so]
          exact⟨(⟨[],[]⟩,8),rfl,rfl,fun h=>by simp at h,fun _=>rfl,fun _=>sm⟩
      · rw [if_pos so]
        by_cases g:y.length<=64
        · rw [if_neg so]
          exact⟨(⟨[],[]⟩,8),rfl,rfl,fun h=>by simp at h,fun _=>rfl,fun _=>sm⟩
        · rw [if_pos so]
          exact⟨(⟨[],[]⟩,8),rfl,rfl,fun h=>by simp at h,fun _=>rfl,fun _=>sm⟩
    · rw [Bool.eq_false_iff.2 f]
      exact⟨(⟨[],[]⟩,1),rfl,rfl,fun h=>by simp at h,fun _=>rfl,fun _=>sm⟩
  · rw [Bool.eq_false_iff.2 c]
    exact⟨(⟨[],[]⟩,1),rfl,rfl,fun h=>by simp at h,fun _=>rfl,fun _=>sm⟩
end Go.Dw.Ss
set_option maxRecDepth 100000
set_option maxHeartbeats 4000000
namespace Go.Dw.Ss
open Go.Dw Go.Proofs
theorem gain_step{r:bp}(z:r.bD.length<=1000)(hs:∀s∈r.bD,StN s)(n d:Int){i:Nat}(hi:i<r.bD.length){a b:List Int}(q:a.length<=64)(u:b.length<=64):
    ∃(e:Int)(x y:List Int),x.length<=64∧y.length<=64∧
      (dg r n d ((i:Int),a,b)=some (.next (((i+1:Nat):Int),x,y))∨dg r n d ((i:Int),a,b)=some (.stop (.inr (⟨[],[]⟩,11))))∧
      ((e = 0 ∧ vN x = true ∧ vN y = true ∧ y ≠ [] ∧ dv r n d ((i : Int), a, b) = some (.next (((i + 1 : Nat) : Int), x, y)) ∧ dg r n d ((i : Int), a, b) = some (.next (((i + 1 : Nat) : Int), x, y))) ∨
       (e≠0∧x=[]∧y=[]∧dv r n d ((i:Int),a,b)=some (.stop (.inr (⟨[],[]⟩,e)))))∧(b=[]->x=[]∧y=[]):=by
  obtain⟨g,g1,g2,g3,g4,g5⟩:=gain_eq (hs _ (C9 hi)) n d
  obtain⟨t,t1,t2,t3,t4,t5⟩:=Times_eq (a:=⟨a,b⟩) (b:=g.1) zb zb za za
  have hw:Dt .i64 ((i:Int)+1)=((i+1:Nat):Int):=by rw [w64 za za];rfl
  have k:∀y,dv r n d ((i:Int),a,b)=y↔(if(!g.2)=true then(some (.stop (.inr ((bo.mk [] []),(11:Int)))))else(if(t.2 != (0:Int))=true then(some (.stop (.inr ((bo.mk [] []),t.2))))else(some (.next (((i+1:Nat):Int),t.1.bI,t.1.bG)))))=y:=fun y=>by
    unfold dv
    dsimp only
    rw [if_pos so,j0 rfl hi,zc,g1,zc,t1,zc,hw]
  have j:∀y,dg r n d ((i:Int),a,b)=y↔(if((g.1.bG.length:Int)==(0:Int))=true then(some (.stop (.inr ((bo.mk [] []),(11:Int)))))else(some (.next (((i+1:Nat):Int),t.1.bI,t.1.bG))))=y:=fun y=>by
    unfold dg
    dsimp only
    rw [if_pos so,j0 rfl hi,zc,g2,zc,t2,zc,hw]
  by_cases c:t.2=0
  · obtain⟨v1,v2,v3⟩:=t3 c
    by_cases f:g.1.bG=[]
    · exact(t5 (.inr f) c).elim
    · have l:g.2=true:=by cases e:g.2 with|true=>rfl|false=>exact(f (g5 e)).elim
      refine⟨0,t.1.bI,t.1.bG,(mi.1 v1).1,(mi.1 v2).1,.inl ((j _).2 ?_),.inl ⟨rfl,v1,v2,v3,(k _).2 ?_,(j _).2 ?_⟩,fun h=>(t5 (.inl h) c).elim⟩
      · rw [if_neg (by simpa using f)]
      · rw [l,c];rfl
      · rw [if_neg (by simpa using f)]
  · have p:=t4 c
    refine⟨if g.2=false then 11 else t.2,[],[],sm,sm,?_,.inr ⟨?_,rfl,rfl,(k _).2 ?_⟩,fun _=>⟨rfl,rfl⟩⟩
    · by_cases f:g.1.bG=[]
      · exact .inr ((j _).2 (by rw [if_pos (by simp [f])]))
      · exact .inl ((j _).2 (by rw [if_neg (by simpa using f),p]))
    · split
      · decide
      · exact c
    · cases l:g.2 with
      |false=>rfl
      |true=>rw [if_neg sm,if_pos (by simpa using c)];rfl
theorem gain_dead{r:bp}(c:r.bD.length<=1000)(hs:∀s∈r.bD,StN s)(n d:Int):∀k i:Nat,i+k=r.bD.length->
    ∃o,dE (dg r n d) ((i:Int),[],[])=some o∧(o= .inl ([],[])∨∃q,o= .inr q∧q.2≠0)
  |0,i,hi=>by
    refine⟨_,o0 ?_,.inl rfl⟩
    unfold dg
    dsimp only
    rw [if_neg so]
  |k+1,i,hi=>by
    obtain⟨e,x,y, -, -,h1, -,f⟩:=gain_step c hs n d (i:=i) za (a:=[]) (b:=[]) sm sm
    obtain⟨rfl,rfl⟩:=f rfl
    rcases h1 with h1|h1
    · obtain⟨o,g,j⟩:=gain_dead c hs n d k (i+1) za
      exact⟨o,by rw [pe h1,g],j⟩
    · exact⟨_,o0 h1,.inr ⟨_,rfl,by decide⟩⟩
def GR(o a:(List Int×List Int)⊕(bo×Int)):Prop:=match o with
  | .inl p=>a= .inl p∧vN p.1=true∧vN p.2=true∧p.2≠ []
  | .inr q=>q.2≠0∧(a= .inl ([],[])∨∃c,a= .inr c∧c.2≠0)
theorem gain_loop{r:bp}(p:r.bD.length<=1000)(hs:∀s∈r.bD,StN s)(n d:Int):∀k i:Nat,i+k=r.bD.length->∀a b:List Int,vN a=true->vN b=true->b≠ []->
    ∃o g,dE (dv r n d) ((i:Int),a,b)=some o∧dE (dg r n d) ((i:Int),a,b)=some g∧GR o g
  |0,i,hi,a,b,j,l,c=>by
    refine⟨.inl (a,b),.inl (a,b),o0 ?_,o0 ?_,rfl,j,l,c⟩
    · unfold dv;dsimp only;rw [if_neg so]
    · unfold dg;dsimp only;rw [if_neg so]
  |k+1,i,hi,a,b,j,l,c=>by
    obtain⟨e,x,y, -, -,h1,u, -⟩:=gain_step p hs n d (i:=i) za (a:=a) (b:=b) (mi.1 j).1 (mi.1 l).1
    rcases u with⟨-,v1,v2,v3,f,e2⟩|⟨he,rfl,rfl,f⟩
    · obtain⟨o,g,q,t,z⟩:=gain_loop p hs n d k (i+1) za x y v1 v2 v3
      exact⟨o,g,by rw [pe f,q],by rw [pe e2,t],z⟩
    · refine⟨.inr (⟨[],[]⟩,e),?_⟩
      rcases h1 with h1|h1
      · obtain⟨o,q,t⟩:=gain_dead p hs n d k (i+1) za
        exact⟨o,o0 f,by rw [pe h1,q],he,t⟩
      · exact⟨_,o0 f,o0 h1,he,.inr ⟨_,rfl,by decide⟩⟩
def sqM(m:Int):Int:=pJ .i64 (Dt .i64 (m*m)) 30
def nM(m:Int):Int:=if sqM m>=2147483648 then pJ .i64 (sqM m) 1 else sqM m
def nD(m d:Int):Int:=if sqM m>=2147483648 then Dt .i64 (Dt .i64 (d*2)+1)else Dt .i64 (d*2)
theorem shr1{n:Int}(a:0<=n):pJ .i64 n 1=n / 2:=by
  show n.fdiv (2 ^ (min (1:Int).toNat 64))=n / 2
  rw [EP _ (by decide)]
  rfl
theorem sqM_le(m:Int):sqM m<=9223372036854775807:=by
  have:=mV (m*m)
  unfold I64 at this
  unfold sqM
  show(Dt .i64 (m*m)).fdiv (2 ^ (min (30:Int).toNat 64))<=_
  rw [EP _ (by decide)]
  show Dt .i64 (m*m) / 1073741824<=_
  omega
theorem quo2{m:Int}(h:sqM m>=2147483648):qa .i64 (sqM m) 2=some (pJ .i64 (sqM m) 1):=by
  have:=sqM_le m
  unfold qa;rw [if_neg (by decide),E6 za,w64 za za,shr1 za]
theorem kstep(c:Int)(f:Int->Int->Int->Option Int)(m d:Int):
    (if(decide (sqM m>=(2147483648:Int)))=true then((qa .i64 (sqM m) (2:Int)).bind fun x=>f c x (Dt .i64 ((Dt .i64 (d*(2:Int)))+(1:Int))))else(f c (sqM m) (Dt .i64 (d*(2:Int)))))=f c (nM m) (nD m d):=by
  unfold nM nD
  by_cases h:sqM m>=2147483648
  · rw [if_pos (by simpa using h),quo2 h,zc,if_pos h,if_pos h]
  · rw [if_neg (by simpa using h),if_neg h,if_neg h]
theorem lstep{m d:Int}{i:Nat}(hi:i<8):cU (m,d,(i:Int))=some (.next (nM m,nD m d,((i+1:Nat):Int))):=by
  unfold cU nM nD
  dsimp only
  rw [if_pos so,w64 (n:=(i:Int)+1) za za]
  show(if decide (sqM m>=2147483648)=true then some (pa.next (pJ .i64 (sqM m) 1,_,_))else some (.next (sqM m,_,_)))=_
  by_cases h:sqM m>=2147483648
  · rw [if_pos (by simpa using h),if_pos h,if_pos h];rfl
  · rw [if_neg (by simpa using h),if_neg h,if_neg h];rfl
theorem nR(c m:Int):gn c m=dj c m:=by
  have h:∀(i:Nat),i<8->∀m d:Int,dE cU (m,d,(i:Int))=dE cU (nM m,nD m d,((i+1:Nat):Int)):=fun i hi m d=>pe (lstep hi)
  unfold gn
  have f:((0:Nat):Int)=0:=rfl
  have a:=h 0 (by decide) m 0
  rw [f]at a
  rw [a,h 1 (by decide),h 2 (by decide),h 3 (by decide),h 4 (by decide),h 5 (by decide),h 6 (by decide),h 7 (by decide),o0 (o:=nD _ _) (by unfold cU;rfl),zc]
  have g:dj c m=cO c (nM m) (nD m 0):=kstep c cO m 0
  have j:∀m d,cO c m d=cN c (nM m) (nD m d):=fun m d=>kstep c cN m d
  have k3:∀m d,cN c m d=cM c (nM m) (nD m d):=fun m d=>kstep c cM m d
  have k:∀m d,cM c m d=cL c (nM m) (nD m d):=fun m d=>kstep c cL m d
  have l:∀m d,cL c m d=cK c (nM m) (nD m d):=fun m d=>kstep c cK m d
  have p:∀m d,cK c m d=cJ c (nM m) (nD m d):=fun m d=>kstep c cJ m d
  have q:∀m d,cJ c m d=cH c (nM m) (nD m d):=fun m d=>kstep c cH m d
  have r:∀m d,cH c m d=df c (nM m) (nD m d):=fun m d=>kstep c df m d
  rw [g,j,k3,k,l,p,q,r]
  rfl
end Go.Dw.Ss
set_option maxRecDepth 100000
set_option maxHeartbeats 4000000
namespace Go.Dw.Ss
open Go.Dw Go.Proofs
theorem shrU{n:Int}(a:0<=n)(k:Nat)(hk:k<=63):pJ .u64 n (k:Nat)=n / 2 ^ k:=by
  show n.fdiv (2 ^ (min ((k:Nat):Int).toNat 64))=n / 2 ^ k
  rw [DQ,Nat.min_eq_left za,EP _ (ES (Int.pow_pos (by decide)))]
theorem wU8{n:Int}(h:0<=n∧n<256):Dt .u8 n=n:=IntWalk.u8_in _ za
theorem tab8:(CC 256).all (fun c=>decide (c=0)||match dx (c:Int) 0 with|some L=>decide (1<=L)&&(decide (L<=8)&&(decide ((2:Int) ^ (L-1).toNat<=c)&&decide ((c:Int)<2 ^ L.toNat)))|none=>false)=true:=by kernel_rfl
def Len(n L:Int):Prop:=∃l:Nat,L=l∧1<=l∧l<=64∧(2:Int) ^ (l-1)<=n∧n<2 ^ l
theorem k8_lo{c:Nat}(hc:c<256)(h1:1<=c){m:Int}(hm:0<=m∧m<=64):∃l:Nat,dx (c:Int) m=some (m+l)∧1<=l∧l<=8∧(2:Int) ^ (l-1)<=c∧(c:Int)<2 ^ l:=by
  have h:=List.all_eq_true.1 tab8 c (List.mem_range.2 hc)
  simp only [FO,decide_eq_true_eq]at h
  rcases h with h|h
  · omega
  have key:∀m:Int,0<=m∧m<=64->∃x:Int,0<=x∧x<=255∧dx (c:Int) 0=some x∧dx (c:Int) m=some (m+x):=fun m hm=>by
    have gen:∀s:List UInt8,s.length=256->∃x:Int,0<=x∧x<=255∧((rT s (c:Int)).bind fun y=>some (Dt .i64 (0+Dt .i64 y)))=some x∧((rT s (c:Int)).bind fun y=>some (Dt .i64 (m+Dt .i64 y)))=some (m+x):=fun s hs=>by
      obtain⟨x,a,b, -,rfl⟩:=Ok.byte (s:=s) (n:=(c:Int)) za za
      have:=b.toNat_lt
      refine⟨(b.toNat:Int),za,za,?_,?_⟩
      · rw [a,zc,w64 (n:=(b.toNat:Int)) za za,w64 za za,Ea]
      · rw [a,zc,w64 (n:=(b.toNat:Int)) za za,w64 za za]
    unfold dx
    rw [if_neg so,if_neg so,wU8 za]
    exact gen _ (by decide)
  obtain⟨x,g,j,f,e2⟩:=key m hm
  rw [f]at h
  simp only [C4,decide_eq_true_eq]at h
  obtain⟨a1,a2,a3,a4⟩:=h
  obtain⟨l,rfl⟩:∃l:Nat,x=l:=⟨x.toNat,za⟩
  refine⟨l,e2,za,za,?_,by simpa using a4⟩
  rw [show((l:Int)-1).toNat=l-1 by omega]at a3
  exact a3
theorem k8_at{n:Int}(h1:1<=n)(h:n<65536){m:Int}(hm:0<=m∧m<=48):∃l:Nat,dx n m=some (m+l)∧1<=l∧l<=16∧(2:Int) ^ (l-1)<=n∧n<2 ^ l:=by
  by_cases a:n<256
  · obtain⟨c,rfl⟩:∃c:Nat,n=c:=⟨n.toNat,za⟩
    obtain⟨l,e,a1,a2,a3,a4⟩:=k8_lo (c:=c) za za (m:=m) za
    exact⟨l,e,a1,za,a3,a4⟩
  · obtain⟨c,hc⟩:∃c:Nat,n / 256=c:=⟨(n / 256).toNat,za⟩
    obtain⟨l,e,a1,a2,a3,a4⟩:=k8_lo (c:=c) za za (m:=m+8) za
    refine⟨l+8,?_,za,za,?_,?_⟩
    · have:dx n m=dx (c:Int) (m+8):=by
        unfold dx
        have hs:pJ .u64 n 8=(c:Int):=by rw [<-hc];exact shrU za 8 za
        rw [if_pos so,if_neg so,hs,w64 (n:=m+8) za za]
      rw [this,e];congr 1;omega
    · rw [show l+8-1=(l-1)+8 by omega,E4];omega
    · rw [E4];omega
theorem k10_at{n:Int}(h1:1<=n)(h:n<4294967296){m:Int}(hm:0<=m∧m<=32):∃l:Nat,jV n m=some (m+l)∧1<=l∧l<=32∧(2:Int) ^ (l-1)<=n∧n<2 ^ l:=by
  unfold jV
  by_cases a:n<65536
  · rw [if_neg so]
    obtain⟨l,e,a1,a2,a3,a4⟩:=k8_at h1 a (m:=m) za
    exact⟨l,e,a1,za,a3,a4⟩
  · have hs:pJ .u64 n 16=n / 65536:=shrU za 16 za
    rw [if_pos so,hs,w64 (n:=m+16) za za]
    obtain⟨l,e,a1,a2,a3,a4⟩:=k8_at (n:=n / 65536) za za (m:=m+16) za
    refine⟨l+16,by rw [e];congr 1;omega,za,za,?_,?_⟩
    · rw [show l+16-1=(l-1)+16 by omega,E4];omega
    · rw [E4];omega
theorem bits_at{n:Int}(h1:1<=n)(h:n<18446744073709551616):Ok (mK n) (Len n):=by
  unfold mK ov
  rw [Ep]
  by_cases a:n<4294967296
  · rw [if_neg so]
    obtain⟨l,e,a1,a2,a3,a4⟩:=k10_at h1 a (m:=0) za
    exact⟨_,e,l,za,a1,za,a3,a4⟩
  · have hs:pJ .u64 n 32=n / 4294967296:=shrU za 32 za
    rw [if_pos so,hs]
    obtain⟨l,e,a1,a2,a3,a4⟩:=k10_at (n:=n / 4294967296) za za (m:=32) za
    refine⟨_,e,l+32,za,za,za,?_,?_⟩
    · rw [show l+32-1=(l-1)+32 by omega,E4];omega
    · rw [E4];omega
theorem or_nat(k m:Nat)(h:2 ^ (k+1)*m+2 ^ k<4611686018427387904):orI .i64 ((2 ^ (k+1)*m:Nat):Int) ((2 ^ k:Nat):Int)=((2 ^ (k+1)*m+2 ^ k:Nat):Int):=by
  have c:=Nat.two_pow_add_eq_or_of_lt (i:=k+1) (b:=2 ^ k) (Nat.pow_lt_pow_right (by decide) (Nat.lt_succ_self k)) m
  generalize 2 ^ (k+1)*m=A at*
  generalize 2 ^ k=B at*
  unfold orI
  show Dt .i64 (((BitVec.ofInt 64 _ ||| BitVec.ofInt 64 _).toNat:Nat):Int)=_
  rw [BitVec.ofInt_natCast,BitVec.ofInt_natCast,BitVec.toNat_or,BitVec.toNat_ofNat,BitVec.toNat_ofNat,Em (a:=A) za,Em (a:=B) za,show(A ||| B)=A+B by omega]
  exact w64 za za
theorem or_add(k m:Nat)(h:(2:Int) ^ (k+1)*m+2 ^ k<4611686018427387904):orI .i64 ((2:Int) ^ (k+1)*m) (2 ^ k)=2 ^ (k+1)*m+2 ^ k:=by
  have a:((2:Int) ^ (k+1)*m)=((2 ^ (k+1)*m:Nat):Int):=by rw [E0,E1];rfl
  have e2:((2:Int) ^ k)=((2 ^ k:Nat):Int):=by rw [E1];rfl
  rw [a,e2]at h⊢
  rw [or_nat k m za]
  exact EZ _ _
theorem sq_lt{x n:Int}(c:0<x)(a:0<=n):x<=n.tdiv x↔x*x<=n:=by
  rw [E6 a,ER c]
theorem bit_half:∀k:Nat,k<33->pJ .i64 ((2:Int) ^ k / 2) 1=if k=0 then 0 else(2:Int) ^ (k-1) / 2:=by decide+kernel
theorem bit_in:∀j:Nat,j<32->(1:Int)<=(2:Int) ^ j∧(2:Int) ^ j<=2147483648:=by decide+kernel
def Rt(n r:Int):Prop:=0<=r∧r*r<=n∧n<(r+1)*(r+1)
theorem sq_uniq{x y n:Int}(c:Rt n x)(f:Rt n y):x=y:=by
  obtain⟨c,h1,g⟩:=c
  obtain⟨f,j,l⟩:=f
  have k:∀a b:Int,0<=a->0<=b->a*a<=n->n<(b+1)*(b+1)->a<=b:=fun a b p q g1 g2=>by
    apply FQ
    intro h
    have:(b+1)*(b+1)<=a*a:=EW za za za za
    omega
  have:=k x y c f h1 l
  have:=k y x f c j g
  omega
theorem oY{r n:Int}(h1:r*r<=n)(c:n<=70368744177664):r<=8388608:=by
  apply FQ
  intro a
  have:8388609*8388609<=r*r:=EW za za za za
  omega
theorem rfloor_ok(n:Int)(t:0<=n)(h1:n<=70368744177664):Ok (jQ n) (Rt n):=by
  unfold jQ
  rw [Ep]
  refine Ez (fun s:Int×Int=>0<=s.1∧s.1*s.1<=n∧∃k:Nat,k<=32∧s.2=(2:Int) ^ k / 2∧n<(s.1+(2:Int) ^ k)*(s.1+(2:Int) ^ k)) (fun s=>s.2.toNat) ?_ ⟨sm,by simpa using t,32,za,by decide,so⟩
  rintro⟨r,b⟩ ⟨r0,g,k,y,rfl,f⟩
  simp only at r0 g f
  have z:=oY g h1
  unfold mb
  dsimp only
  rcases Dv k with rfl|hk
  · refine FC (fun h=>by simp at h) (fun _=>FH ⟨r0,g,by simpa using f⟩)
  have c:=bit_half k za
  rw [if_neg za]at c
  obtain⟨j,rfl⟩:∃j,k=j+1:=⟨k-1,za⟩
  simp only [El]at c
  have hp:(2:Int) ^ (j+1) / 2=(2:Int) ^ j:=by rw [E5];omega
  obtain⟨q,p⟩:=bit_in j za
  rw [hp]at c⊢
  rw [c]
  have x:(2:Int) ^ j / 2<(2:Int) ^ j:=by omega
  have l:n<(r+2*(2:Int) ^ j)*(r+2*(2:Int) ^ j):=by rw [E5]at f;rw [EV 2];exact f
  generalize a:(2:Int) ^ j=B at*
  refine FC (fun _=>?_) (fun h=>za)
  rw [w64 (n:=r+B) za za]
  refine FC (fun hle=>?_) (fun h=>za)
  have u:0<=(r+B)*(r+B)∧(r+B)*(r+B)<=3037000499*3037000499:=⟨EX za za,EW hle hle za za⟩
  rw [w64 (n:=(r+B)*(r+B)) za za]
  refine FC (fun hm=>?_) (fun hm=>?_)
  · refine FB ⟨zb,hm,j,za,by simp only;rw [a],?_⟩ zb
    simp only
    rw [a,show r+B+B=r+2*B by omega];exact l
  · refine FB ⟨r0,g,j,za,by simp only;rw [a],?_⟩ zb
    simp only
    rw [a];omega
theorem cfloor_loop(n:Int)(C:0<n)(h1:n<=70368744177664)(s:Int×Int)(hs:0<=s.1∧s.1*s.1<=n∧∃k m:Nat,k<=32∧s.2=(2:Int) ^ k / 2∧s.1=(2:Int) ^ k*m∧n<(s.1+(2:Int) ^ k)*(s.1+(2:Int) ^ k)):Ok (dE (gx n) s) (Rt n):=by
  refine Ez (fun s:Int×Int=>0<=s.1∧s.1*s.1<=n∧∃k m:Nat,k<=32∧s.2=(2:Int) ^ k / 2∧s.1=(2:Int) ^ k*m∧n<(s.1+(2:Int) ^ k)*(s.1+(2:Int) ^ k)) (fun s=>s.2.toNat) ?_ hs
  rintro⟨r,b⟩ ⟨r0,l,k,m,D,rfl,f,g⟩
  simp only at r0 l f g
  have E:=oY l h1
  unfold gx
  dsimp only
  rcases Dv k with rfl|hk
  · refine FC (fun h=>by simp at h) (fun _=>FH ⟨r0,l,by simpa using g⟩)
  have c:=bit_half k za
  rw [if_neg za]at c
  obtain⟨j,rfl⟩:∃j,k=j+1:=⟨k-1,za⟩
  simp only [El]at c
  have hp:(2:Int) ^ (j+1) / 2=(2:Int) ^ j:=by rw [E5];omega
  obtain⟨x,u⟩:=bit_in j za
  have p:orI .i64 r (2 ^ j)=r+2 ^ j:=by rw [f];exact or_add j m (by rw [<-f];omega)
  have d1:r=(2:Int) ^ j*((2*m:Nat):Int):=by
    rw [f,E5,E0,Int.mul_assoc];rfl
  have d2:r+2 ^ j=(2:Int) ^ j*((2*m+1:Nat):Int):=by
    rw [EZ,Int.mul_add, <-d1];simp
  rw [hp]at c⊢
  rw [c,p]
  have t:n<(r+2*(2:Int) ^ j)*(r+2*(2:Int) ^ j):=by rw [E5]at g;rw [EV 2];exact g
  have z:0<=n.tdiv (r+2 ^ j):=E8 za za
  have B:n.tdiv (r+2 ^ j)<=n:=E7 _ za
  refine FC (fun _=>?_) (fun h=>za)
  refine Es (FE za) (fun q y=>?_)
  rw [w64 za za]at y
  subst y
  refine FC (fun hle=>?_) (fun a=>?_)
  · rw [sq_lt za za]at hle
    refine FB ⟨zb,hle,j,2*m+1,za,rfl,d2,?_⟩ zb
    simp only
    rw [show r+2 ^ j+2 ^ j=r+2*2 ^ j by omega];exact t
  · rw [sq_lt za za]at a
    exact FB ⟨r0,l,j,2*m,za,rfl,d1,Int.not_le.1 a⟩ zb
theorem start_at:∀q:Nat,q<32->uq .i64 1 (q:Int)=(2:Int) ^ (q+1) / 2:=by decide+kernel
theorem cfloor_ok(n:Int)(g:0<=n)(h1:n<=70368744177664):Ok (fO n) (Rt n):=by
  unfold fO
  refine FC (fun h=>FF ⟨za,za,za⟩) (fun h=>?_)
  have hw:Dt .u64 n=n:=IntWalk.u64_in _ za
  rw [hw]
  refine Es (bits_at za za) (fun L⟨l,a,k,p,q,r⟩=>?_)
  subst a
  have j:l<=47:=by
    apply FQ
    intro c
    have:(2:Int) ^ 47<=2 ^ (l-1):=by
      have:=En (show 0<2 by decide) (show 47<=l-1 by omega)
      exact_mod_cast this
    have e:(2:Int) ^ 47=140737488355328:=by decide
    omega
  rw [w64 (n:=(l:Int)-1) za za]
  have f:qa .i64 ((l:Int)-1) 2=some (((l-1) / 2:Nat):Int):=by
    unfold qa
    rw [if_neg (by decide),E6 za,w64 za za]
    congr 1;omega
  rw [f,zc]
  have hs:vB .i64 1 (((l-1) / 2:Nat):Int)=some ((2:Int) ^ ((l-1) / 2+1) / 2):=by
    unfold vB
    rw [if_neg za,start_at _ za]
  rw [hs,zc,Ep]
  refine cfloor_loop n za h1 _ ⟨sm,zb,(l-1) / 2+1,0,za,rfl,sm,?_⟩
  simp only [Ea]
  rw [<-E4]
  have:(2:Int) ^ l<=2 ^ ((l-1) / 2+1+((l-1) / 2+1)):=by
    have:=En (show 0<2 by decide) (show l<=(l-1) / 2+1+((l-1) / 2+1)by omega)
    exact_mod_cast this
  omega
theorem oE{n:Int}(c:0<=n)(h1:n<=70368744177664):∃r,fO n=some r∧jQ n=some r∧Rt n r:=by
  obtain⟨a,a1,a2⟩:=cfloor_ok n c h1
  obtain⟨b,b1,b2⟩:=rfloor_ok n c h1
  rw [sq_uniq b2 a2]at b1
  exact⟨a,a1,b1,a2⟩
theorem Ceil_eq{n:Int}(c:0<=n)(h1:n<=70368744177664):∃r,eH n=some r∧ma n=some r∧0<=r∧r<=8388609∧n<=r*r∧(∀f,Rt n f->f<=r):=by
  obtain⟨x,k,l,a⟩:=oE c h1
  have q:=oY a.2.1 h1
  have p:=a.2.1
  have g:0<=x*x:=EX a.1 a.1
  unfold eH ma
  have j:=a.1
  rw [k,l,zc,w64 (n:=x*x) za za,w64 (n:=x+1) za za]
  by_cases h:x*x<n
  · rw [if_pos (by simpa using h)]
    exact⟨_,rfl,rfl,za,za,ES a.2.2,fun f hf=>by rw [sq_uniq hf a];omega⟩
  · rw [if_neg (by simpa using h)]
    exact⟨_,rfl,rfl,za,za,za,fun f hf=>by rw [sq_uniq hf a];omega⟩
end Go.Dw.Ss
set_option maxRecDepth 100000
set_option maxHeartbeats 4000000
namespace Go.Dw.Ss
open Go.Dw Go.Proofs
abbrev PosP(p:aa):Prop:=(-1048576<=p.fX∧p.fX<=1048576)∧(-1048576<=p.fY∧p.fY<=1048576)∧(-16384<=p.fZ∧p.fZ<=1048576)
abbrev BoxP(b:ah):Prop:=PosP b.bh∧PosP b.av∧b.bh.fX<=b.av.fX∧b.bh.fY<=b.av.fY∧b.bh.fZ<=b.av.fZ
theorem l6(p:aa):dy p=some (decide (PosP p)):=by
  refine Et ?_
  unfold dy bU
  rw [zc]
  dsimp only
  exact FC (fun _=>FF (decide_eq_false za).symm) (fun _=>FC (fun _=>FF (decide_eq_false za).symm) (fun _=>FC (fun _=>FF (decide_eq_false za).symm) (fun _=>FC (fun _=>FF (decide_eq_false za).symm) (fun _=>FC (fun _=>FF (decide_eq_false za).symm) (fun _=>FC (fun _=>FF (decide_eq_false za).symm) (fun _=>FF (decide_eq_true za).symm))))))
theorem lI(p:aa):fu p=some (decide (PosP p)):=by
  refine Et ?_
  unfold fu
  refine FC (fun _=>FC (fun _=>FC (fun _=>FC (fun _=>FC (fun _=>FF ?_) (fun _=>FF (decide_eq_false za).symm)) (fun _=>FF (decide_eq_false za).symm)) (fun _=>FF (decide_eq_false za).symm)) (fun _=>FF (decide_eq_false za).symm)) (fun _=>FF (decide_eq_false za).symm)
  exact decide_eq_decide.2 za
theorem ja(b:ah):b9 b=some (decide (BoxP b)):=by
  refine Et ?_
  unfold b9 bU
  rw [l6,zc,l6]
  refine Ey (fun h=>FF (decide_eq_false (fun e=>h e.1)).symm) (fun h1=>?_)
  rw [zc]
  refine Ey (fun h=>FF (decide_eq_false (fun e=>h e.2.1)).symm) (fun a=>?_)
  rw [zc,zc]
  dsimp only
  exact FC (fun _=>FF (decide_eq_false (fun e=>by have:=e.2.2;omega)).symm) (fun _=>FC (fun _=>FF (decide_eq_false (fun e=>by have:=e.2.2;omega)).symm) (fun _=>FC (fun _=>FF (decide_eq_false (fun e=>by have:=e.2.2;omega)).symm) (fun _=>FF (decide_eq_true ⟨h1,a,za,za,za⟩).symm)))
theorem gC(b:ah):cm b=some (decide (BoxP b)):=by
  refine Et ?_
  unfold cm
  rw [lI,zc,lI]
  refine FC (fun h1=>?_) (fun h=>FF (decide_eq_false (fun e=>h e.1)).symm)
  rw [zc]
  refine FC (fun a=>?_) (fun h=>FF (decide_eq_false (fun e=>h e.2.1)).symm)
  refine FC (fun _=>FC (fun _=>FF ?_) (fun _=>FF (decide_eq_false (fun e=>by have:=e.2.2;omega)).symm)) (fun _=>FF (decide_eq_false (fun e=>by have:=e.2.2;omega)).symm)
  exact decide_eq_decide.2 ⟨fun h=>⟨h1,a,za,za,h⟩,fun h=>h.2.2.2.2⟩
theorem nv{x:Int}(h: -2097152<=x∧x<=2097152):0<=x*x∧x*x<=4398046511104:=by
  constructor
  · rcases EU 0 x with a|a
    · exact EX a a
    · exact EY a a
  · rcases EU 0 x with a|a
    · have:x*x<=2097152*2097152:=EW za za a za
      omega
    · have: -x* -x<=2097152*2097152:=EW za za za za
      rw [E2]at this;omega
def ne(x lo hi:Int):Int:=if x<lo then lo-x else if hi<x then x-hi else 0
def fa(x lo hi:Int):Int:=if x-lo>hi-x then x-lo else hi-x
abbrev InR(x:Int):Prop:= -1048576<=x∧x<=1048576
theorem near1{x lo hi:Int}(g:InR x)(f:InR lo)(c:InR hi)(a:lo<=hi):eO x lo hi=some (ne x lo hi)∧kM lo hi x=some (ne x lo hi)∧ -2097152<=ne x lo hi∧ne x lo hi<=2097152:=by
  unfold eO kM ne
  rw [w64 (n:=x-hi) za za,w64 (n:=lo-x) za za]
  refine⟨?_,?_,?_,?_⟩
  · congr 1;split<;>split<;>(try split)<;>omega
  · congr 1;split<;>(try split)<;>(try split)<;>omega
  · split<;>(try split)<;>omega
  · split<;>(try split)<;>omega
theorem far1{x lo hi:Int}(f:InR x)(c:InR lo)(a:InR hi):eo x lo hi=some (fa x lo hi)∧lQ lo hi x=some (fa x lo hi)∧ -2097152<=fa x lo hi∧fa x lo hi<=2097152:=by
  unfold eo lQ fa
  rw [w64 (n:=x-lo) za za,w64 (n:=hi-x) za za]
  refine⟨rfl,?_,?_,?_⟩
  · congr 1;split<;>split<;>omega
  · split<;>omega
  · split<;>omega
theorem near_eq(b:ah)(p:aa):∃v,eI b p=some v∧iA b p=some v∧0<=v∧v<=13194139533312:=by
  unfold eI eD iA
  rw [Ep,ja,gC,zc,zc,l6,lI]
  by_cases a:BoxP b
  · rw [if_neg (by simp [a]),if_neg (by simp [a]),zc,zc]
    by_cases hp:PosP p
    · rw [if_neg (by simp [hp]),if_neg (by simp [hp])]
      obtain⟨⟨z,B,C⟩,⟨g1,g2,g3⟩,s1,s2,s3⟩:=a
      obtain⟨D,E,F⟩:=hp
      obtain⟨g,j,k,l⟩:=near1 (x:=p.fX) (lo:=b.bh.fX) (hi:=b.av.fX) za za za s1
      obtain⟨q,r,t,u⟩:=near1 (x:=p.fY) (lo:=b.bh.fY) (hi:=b.av.fY) za za za s2
      obtain⟨y,z2,z3,z4⟩:=near1 (x:=p.fZ) (lo:=b.bh.fZ) (hi:=b.av.fZ) za za za s3
      have G:=nv ⟨k,l⟩;have H:=nv ⟨t,u⟩;have sz:=nv ⟨z3,z4⟩
      unfold bU dP
      simp only [zc,g,j,q,r,y,z2]
      generalize ne p.fX b.bh.fX b.av.fX=nx at*
      generalize ne p.fY b.bh.fY b.av.fY=c at*
      generalize ne p.fZ b.bh.fZ b.av.fZ=f at*
      rw [w64 (n:=nx*nx) za za,w64 (n:=c*c) za za,w64 (n:=f*f) za za,Ea,w64 (n:=nx*nx) za za,w64 (n:=nx*nx+c*c) za za,w64 za za]
      exact⟨_,rfl,rfl,za,za⟩
    · rw [if_pos (by simp [hp]),if_pos (by simp [hp])];exact⟨0,rfl,rfl,za,za⟩
  · rw [if_pos (by simp [a]),if_pos (by simp [a])];exact⟨0,rfl,rfl,za,za⟩
theorem far_eq(b:ah)(p:aa):∃v,gw b p=some v∧jP b p=some v∧0<=v∧v<=13194139533312:=by
  unfold gw er jP
  rw [Ep,ja,gC,zc,zc,l6,lI]
  by_cases a:BoxP b
  · rw [if_neg (by simp [a]),if_neg (by simp [a]),zc,zc]
    by_cases hp:PosP p
    · rw [if_neg (by simp [hp]),if_neg (by simp [hp])]
      obtain⟨⟨z,B,C⟩,⟨g1,g2,g3⟩,s1,s2,s3⟩:=a
      obtain⟨D,E,F⟩:=hp
      obtain⟨g,j,k,l⟩:=far1 (x:=p.fX) (lo:=b.bh.fX) (hi:=b.av.fX) za za za
      obtain⟨q,r,t,u⟩:=far1 (x:=p.fY) (lo:=b.bh.fY) (hi:=b.av.fY) za za za
      obtain⟨y,z2,z3,z4⟩:=far1 (x:=p.fZ) (lo:=b.bh.fZ) (hi:=b.av.fZ) za za za
      have G:=nv ⟨k,l⟩;have H:=nv ⟨t,u⟩;have sz:=nv ⟨z3,z4⟩
      unfold bU dP
      simp only [zc,g,j,q,r,y,z2]
      generalize fa p.fX b.bh.fX b.av.fX=nx at*
      generalize fa p.fY b.bh.fY b.av.fY=c at*
      generalize fa p.fZ b.bh.fZ b.av.fZ=f at*
      rw [w64 (n:=nx*nx) za za,w64 (n:=c*c) za za,w64 (n:=f*f) za za,Ea,w64 (n:=nx*nx) za za,w64 (n:=nx*nx+c*c) za za,w64 za za]
      exact⟨_,rfl,rfl,za,za⟩
    · rw [if_pos (by simp [hp]),if_pos (by simp [hp])];exact⟨0,rfl,rfl,za,za⟩
  · rw [if_pos (by simp [a]),if_pos (by simp [a])];exact⟨0,rfl,rfl,za,za⟩
def Lo(t:aw)(k:Nat):Int:=t.bh.getD k 0
def Hi(t:aw)(k:Nat):Int:=t.av.getD k 0
def oj(t:aw)(k:Nat):Prop:=0<=Lo t k∧Hi t k<=1099511627776∧Lo t k<=Hi t k∧(0<k->Lo t (k-1)<=Lo t k∧Hi t (k-1)<=Hi t k)
structure nB(t:aw):Prop where
  step:1<=t.bS∧t.bS<=1048576
  same:t.bh.length=t.av.length
  len:2<=t.bh.length∧t.bh.length<=256
  all:∀k,k<t.bh.length->oj t k
theorem oA{l:List Int}{k:Nat}(h:k<l.length):pb l (k:Int)=some (l.getD k 0):=by rw [j0 rfl h,fB h]
theorem getLo{t:aw}{k:Nat}(h:k<t.bh.length):pb t.bh (k:Int)=some (Lo t k):=oA h
theorem getHi{t:aw}{k:Nat}(h:k<t.av.length):pb t.av (k:Int)=some (Hi t k):=oA h
theorem tab_ok(t:aw):Ok (cV t) (fun e=>e=0∧nB t∨e=21∧¬nB t):=by
  unfold cV
  refine FC (fun h=>FF (.inr ⟨rfl,fun e=>by have:=e.step;omega⟩)) (fun s1=>FC (fun h=>FF (.inr ⟨rfl,fun e=>by have:=e.step;omega⟩)) (fun s2=>Ok.Ax (fun h=>FF (.inr ⟨rfl,fun e=>by have:=e.same;omega⟩)) (fun s3=>FC (fun h=>FF (.inr ⟨rfl,fun e=>by have:=e.len;omega⟩)) (fun D=>FC (fun h=>FF (.inr ⟨rfl,fun e=>by have:=e.len;omega⟩)) (fun E=>?_)))))
  refine Es (P:=fun o:Unit⊕Int=>match o with| .inl _=>∀k,k<t.bh.length->oj t k| .inr e=>e=21∧∃k,k<t.bh.length∧¬oj t k)
    (Ez (fun s:Int×Int×Int=>∃k:Nat,s=((if k=0 then 0 else Lo t (k-1)),(if k=0 then 0 else Hi t (k-1)),(k:Int))∧k<=t.bh.length∧∀j,j<k->oj t j) (fun s=>((t.bh.length:Int)-s.2.2).toNat) ?_ ⟨0,rfl,CG _,fun j h=>za⟩) (fun o ho=>?_)
  · rintro s ⟨k,rfl,z,q⟩
    unfold je
    dsimp only
    refine FC (fun y=>?_) (fun x=>FH (fun j r=>q j za))
    have hk:k<t.bh.length:=by omega
    have p:k<t.av.length:=by omega
    rw [getLo hk,getHi p]
    simp only [zc]
    have c:0<k->0<=Lo t (k-1)∧Lo t (k-1)<=Hi t (k-1):=fun h=>by
      obtain⟨a, -,b, -⟩:=q (k-1) za;exact⟨a,b⟩
    by_cases g:k=0
    · subst g
      simp only [if_true]
      refine FC (fun h=>FH ⟨rfl,0,hk,fun e=>by have:=e.1;omega⟩) (fun a1=>FC (fun h=>FH ⟨rfl,0,hk,fun e=>by obtain⟨f, -,e2, -⟩:=e;omega⟩) (fun a2=>FC (fun h=>FH ⟨rfl,0,hk,fun e=>by obtain⟨f, -,e2, -⟩:=e;omega⟩) (fun a3=>FC (fun h=>FH ⟨rfl,0,hk,fun e=>by obtain⟨-,f, -⟩:=e;omega⟩) (fun a4=>?_))))
      refine FB ⟨1,by simp [Eo],za,fun j r=>?_⟩ (by simp [Eo];omega)
      obtain rfl:j=0:=by omega
      exact⟨za,za,za,fun h=>za⟩
    · rw [if_neg g,if_neg g]
      obtain⟨B,C⟩:=c za
      refine FC (fun h=>FH ⟨rfl,k,hk,fun e=>by have:=(e.2.2.2 za).1;omega⟩) (fun a1=>FC (fun h=>FH ⟨rfl,k,hk,fun e=>by have:=(e.2.2.2 za).2;omega⟩) (fun a2=>FC (fun h=>FH ⟨rfl,k,hk,fun e=>by obtain⟨f, -,e2, -⟩:=e;omega⟩) (fun a3=>FC (fun h=>FH ⟨rfl,k,hk,fun e=>by obtain⟨-,f, -⟩:=e;omega⟩) (fun a4=>?_))))
      rw [w64 za za]
      refine FB ⟨k+1,sm,za,fun j r=>?_⟩ zb
      by_cases l:j=k
      · subst l
        exact⟨za,za,za,fun _=>⟨za,za⟩⟩
      · exact q j za
  · rcases o with _|e
    · exact FF (.inl ⟨rfl,⟨⟨za,za⟩,za,⟨za,za⟩,ho⟩⟩)
    · obtain⟨rfl,k,h1,u⟩:=ho
      exact FF (.inr ⟨rfl,fun e=>u (e.all k h1)⟩)
theorem rtab_ok(t:aw):Ok (cS t) (fun e=>e=0∧nB t∨e=21∧¬nB t):=by
  unfold cS
  refine FC (fun h=>FF (.inr ⟨rfl,fun e=>by have:=e.step;omega⟩)) (fun s1=>FC (fun h=>FF (.inr ⟨rfl,fun e=>by have:=e.step;omega⟩)) (fun s2=>Ok.Ax (fun h=>FF (.inr ⟨rfl,fun e=>by have:=e.same;omega⟩)) (fun s3=>FC (fun h=>FF (.inr ⟨rfl,fun e=>by have:=e.len;omega⟩)) (fun y=>FC (fun h=>FF (.inr ⟨rfl,fun e=>by have:=e.len;omega⟩)) (fun z=>?_)))))
  refine Es (P:=fun o:Unit⊕Int=>match o with| .inl _=>∀k,k<t.bh.length->oj t k| .inr e=>e=21∧∃k,k<t.bh.length∧¬oj t k)
    (Ez (fun s:Int=>∃k:Nat,s=(k:Int)∧k<=t.bh.length∧∀j,j<k->oj t j) (fun s=>((t.bh.length:Int)-s).toNat) ?_ ⟨0,rfl,CG _,fun j h=>za⟩) (fun o ho=>?_)
  · rintro s ⟨k,rfl,x,g⟩
    unfold jL
    refine FC (fun r=>?_) (fun p=>FH (fun j q=>g j za))
    have hk:k<t.bh.length:=by omega
    have c:k<t.av.length:=by omega
    rw [getLo hk,getHi c]
    simp only [zc]
    refine FC (fun h=>FH ⟨rfl,k,hk,fun e=>by have:=e.1;omega⟩) (fun a1=>FC (fun h=>FH ⟨rfl,k,hk,fun e=>by have:=e.2.1;omega⟩) (fun a2=>FC (fun h=>FH ⟨rfl,k,hk,fun e=>by have:=e.2.2.1;omega⟩) (fun a3=>?_)))
    have fin:(0<k->Lo t (k-1)<=Lo t k∧Hi t (k-1)<=Hi t k)->Ok (some (pa.next (Dt .i64 ((k:Int)+1))):Option (pa Int (Unit⊕Int))) (Ok.S (fun s:Int=>∃k:Nat,s=(k:Int)∧k<=t.bh.length∧∀j,j<k->oj t j) (fun s=>((t.bh.length:Int)-s).toNat) (fun o:Unit⊕Int=>match o with| .inl _=>∀k,k<t.bh.length->oj t k| .inr e=>e=21∧∃k,k<t.bh.length∧¬oj t k) (k:Int)):=fun hm=>by
      rw [w64 za za]
      refine FB ⟨k+1,sm,za,fun j q=>?_⟩ za
      by_cases a:j=k
      · subst a
        exact⟨za,za,za,hm⟩
      · exact g j za
    refine FC (fun f=>?_) (fun h=>fin (fun u=>za))
    rw [w64 (n:=(k:Int)-1) za za,show(k:Int)-1=((k-1:Nat):Int)by omega,getLo (k:=k-1) za,getHi (k:=k-1) za]
    simp only [zc]
    exact FC (fun h=>FH ⟨rfl,k,hk,fun e=>by have:=(e.2.2.2 za).1;omega⟩) (fun a4=>FC (fun h=>FH ⟨rfl,k,hk,fun e=>by have:=(e.2.2.2 za).2;omega⟩) (fun a5=>fin fun _=>⟨za,za⟩))
  · rcases o with _|e
    · exact FF (.inl ⟨rfl,⟨⟨za,za⟩,za,⟨za,za⟩,ho⟩⟩)
    · obtain⟨rfl,k,h1,l⟩:=ho
      exact FF (.inr ⟨rfl,fun e=>l (e.all k h1)⟩)
theorem kz(t:aw):(cV t=some 0∧cS t=some 0∧nB t)∨(cV t=some 21∧cS t=some 21∧¬nB t):=by
  obtain⟨a,a1,a2⟩:=tab_ok t
  obtain⟨b,b1,b2⟩:=rtab_ok t
  rcases a2 with⟨rfl,a2⟩|⟨rfl,a2⟩<;>rcases b2 with⟨rfl,b2⟩|⟨rfl,b2⟩
  · exact .inl ⟨a1,b1,a2⟩
  · exact(b2 a2).elim
  · exact(a2 b2).elim
  · exact .inr ⟨a1,b1,a2⟩
theorem half_at(n:Nat)(h:n<=1000):Dt .i64 (pJ .u64 (Dt .u64 (Dt .i64 (n:Int))) 1)=((n / 2:Nat):Int):=by
  rw [w64 (n:=(n:Int)) za za,IntWalk.u64_in (n:Int) za]
  have:pJ .u64 (n:Int) 1=(n:Int) / 2:=shrU za 1 za
  rw [this,w64 za za];omega
theorem search_ok{t:aw}(f:nB t)(d:Int)(x:d<=t.bS*((t.bh.length:Int)-1)):Ok (iY (t.av.length:Int) t d) (fun r=>(0<=r∧r<t.av.length)∧d<=r*t.bS∧(0<r->(r-1)*t.bS<d)):=by
  have y:=f.len;have hs:=f.same;have q:=f.step
  unfold iY
  rw [Ep]
  refine Ez (fun s=>∃i j:Nat,s=((i:Int),(j:Int))∧i<t.av.length∧i<=j∧j<=t.av.length∧(j<t.av.length->d<=(j:Int)*t.bS)∧(0<i->((i:Int)-1)*t.bS<d)) (fun s=>(s.2-s.1).toNat) ?_ ⟨0,t.av.length,rfl,za,za,B6 _,fun h=>za,fun h=>za⟩
  rintro s ⟨i,j,rfl,i0,i1,i2,i3,i4⟩
  unfold jc
  dsimp only
  refine FC (fun c=>?_) (fun l=>FH ⟨⟨za,za⟩,?_,fun h=>i4 za⟩)
  rotate_left
  · obtain rfl:i=j:=by omega
    exact i3 i0
  have g:=half_at (i+j) za
  rw [EZ]at g
  have p:(i+j) / 2<j:=by omega
  have a:i<=(i+j) / 2:=by omega
  rw [g]
  generalize (i+j) / 2=k at*
  unfold jd
  have u:0<=(k:Int)*t.bS∧(k:Int)*t.bS<=256*1048576:=⟨EX za za,EW za za za za⟩
  rw [w64 (n:=(k:Int)*t.bS) za za,zc]
  refine Ey (fun c=>?_) (fun hle=>FB ⟨i,k,rfl,i0,a,za,fun _=>hle,i4⟩ zb)
  rw [w64 za za]
  refine FB ⟨k+1,j,sm,?_,za,i2,i3,fun _=>?_⟩ zb
  · have h1:(k:Int)*t.bS<t.bS*((t.bh.length:Int)-1):=by omega
    rw [EV]at h1
    have:=Int.lt_of_mul_lt_mul_left h1 za
    omega
  · rw [show(((k+1:Nat):Int)-1)=k by omega];omega
theorem oK(t:aw){a b:Int}(hb:b<=13194139533312):∃r,ek t a b=some r∧gY t a b=some r∧(r.2.2=0->0<=r.1∧r.1<=r.2.1∧r.2.1<=1099511627776):=by
  unfold ek gY
  rcases kz t with⟨B,e2,j⟩|⟨B,e2,j⟩
  rotate_left
  · rw [B,e2];exact⟨_,rfl,rfl,fun h=>absurd h (by decide)⟩
  rw [B,e2]
  simp only [zc]
  simp only [bne_self_eq_false,Cb,if_false]
  by_cases h1:a<0
  · simp only [h1,decide_true,if_true];exact⟨_,rfl,rfl,fun h=>absurd h (by decide)⟩
  simp only [h1,decide_false,Cb,if_false]
  by_cases p:a>b
  · simp only [p,decide_true,if_true];exact⟨_,rfl,rfl,fun h=>absurd h (by decide)⟩
  simp only [p,decide_false,Cb,if_false]
  obtain⟨c,E,F,c3,c4,c5,G⟩:=Ceil_eq (n:=b) za za
  obtain⟨x,X,Y,D⟩:=oE (n:=a) za za
  have hl:=j.len;have hs:=j.same;have L:=j.step
  have hR:0<=t.bS*((t.bh.length:Int)-1)∧t.bS*((t.bh.length:Int)-1)<=1048576*256:=⟨EX za za,EW za za za za⟩
  unfold lK nN
  rw [E,F,e2]
  simp only [zc]
  simp only [bne_self_eq_false,Cb,if_false]
  rw [w64 (n:=(t.bh.length:Int)-1) za za,w64 (n:=t.bS*((t.bh.length:Int)-1)) za za]
  simp only [zc]
  by_cases C:c>t.bS*((t.bh.length:Int)-1)
  · simp only [C,decide_true,if_true];exact⟨_,rfl,rfl,fun h=>absurd h (by decide)⟩
  simp only [C,decide_false,Cb,if_false]
  obtain⟨u,u1,⟨u2,u3⟩,u4,W⟩:=search_ok j c za
  have N:x<=c:=by
    obtain⟨f,f1,f2,f3⟩:=oE (n:=b) za za
    have h5:=G f f3
    obtain⟨g1,g2,g3⟩:=D
    obtain⟨k1,k2,k3⟩:=f3
    apply FQ
    intro h
    have:(f+1)*(f+1)<=x*x:=EW za za za za
    omega
  have y:=D.1
  have I:0<=x.tdiv t.bS:=E8 y za
  have J:x.tdiv t.bS<=(t.bh.length:Int)-1:=by
    rw [E6 y]
    exact Int.ediv_le_of_le_mul za (by rw [EV];omega)
  have H:(c+t.bS-1).tdiv t.bS=u:=by
    rw [E6 za]
    have g1:u<=(c+t.bS-1) / t.bS:=by
      rw [ER za]
      rcases Int.lt_or_eq_of_le u2 with h|h
      · have:=W h
        rw [Int.sub_mul,E3]at this;omega
      · rw [<-h];omega
    have g2:(c+t.bS-1) / t.bS<u+1:=by
      rw [Int.ediv_lt_iff_lt_mul za,Int.add_mul,E3];omega
    omega
  obtain⟨g,z⟩:∃g:Nat,x.tdiv t.bS=g:=⟨(x.tdiv t.bS).toNat,za⟩
  obtain⟨un,q⟩:∃un:Nat,u=un:=⟨u.toNat,za⟩
  have Q:qa .i64 x t.bS=some (g:Int):=by unfold qa;rw [if_neg za,z,w64 za za]
  have T:qa .i64 (c+t.bS-1) t.bS=some (un:Int):=by unfold qa;rw [if_neg za,H,q,w64 za za]
  unfold nL nO
  rw [u1,X,Y,w64 (n:=c+t.bS) za za,w64 (n:=c+t.bS-1) za za,T]
  simp only [zc]
  rw [Q,q]
  simp only [zc]
  rw [oA (l:=t.bh) (k:=g) za,oA (l:=t.av) (k:=un) za]
  refine⟨_,rfl,rfl,fun _=>?_⟩
  have K:g<=un:=by
    have h1:t.bS*(g:Int)<=u*t.bS:=by
      rw [<-z,E6 y]
      have:=Int.mul_ediv_self_le (x:=x) (k:=t.bS) za
      omega
    rw [EV,q]at h1
    have:=Int.le_of_mul_le_mul_right h1 za
    omega
  have mono:∀d i:Nat,i+d<t.bh.length->Lo t i<=Lo t (i+d):=fun d=>by
    induction d with
    |zero=>exact fun i _=>ET _
    |succ d O=>
      intro i hi
      have h1:=O i za
      have p:=((j.all (i+(d+1)) za).2.2.2 za).1
      rw [show i+(d+1)-1=i+d by omega]at p
      omega
  have h1:=mono (un-g) g za
  rw [show g+(un-g)=un by omega]at h1
  have p:=j.all un za
  exact⟨(j.all g za).1,Int.le_trans h1 p.2.2.1,p.2.1⟩
theorem between_eq(t:aw){a b:Int}(f:b<=13194139533312):∃r,ek t a b=some r∧gY t a b=some r:=
  let⟨r,h1,c,_⟩:=oK t f
  ⟨r,h1,c⟩
end Go.Dw.Ss
set_option maxRecDepth 100000
set_option maxHeartbeats 4000000
namespace Go.Dw.Ss
namespace Sq
open Go.Dw
abbrev Src:=bj
theorem byteO_at{s:List UInt8}{n:Int}{i:Nat}(a:n=i)(hi:i<s.length):rT s n=some ((s[i].toNat:Nat):Int):=by
  subst a
  unfold rT
  rw [if_pos ⟨za,za⟩,DQ,D7,zd hi];rfl
theorem cutO_at{α:Type}{l:List α}{a b:Int}{i j:Nat}(c:a=i)(f:b=j)(h1:i<=j)(g:j<=l.length):ue l a b=some ((l.drop i).take (j-i)):=by
  subst c f
  unfold ue
  rw [if_pos ⟨za,za,za⟩,DQ,DQ]
theorem hP{α:Type}{l m:List α}{b:Nat}(h:(l.length+m.length)*b<=140737488355328):pG l m b=some (l++m):=by
  unfold pG
  rw [if_pos h]
theorem loop_list{α ω:Type}{body:Int->Option (pa Int ω)}(l:List α){p:α->Bool}{u r:ω}(h1:∀(i:Nat)(hi:i<l.length),body i=if p l[i]=true then some (.next ((i+1:Nat):Int))else some (.stop r))
    (c:body (l.length:Nat)=some (.stop u)):dE body (0:Int)=some (if l.all p=true then u else r):=by
  have:∀k i,i+k=l.length->dE body (i:Int)=some (if(l.drop i).all p=true then u else r):=by
    intro k
    induction k with
    |zero=>
      intro i hi
      obtain rfl:i=l.length:=by omega
      rw [o0 c];simp
    |succ k f=>
      intro i hi
      have a:i<l.length:=by omega
      rw [Eb a,EA]
      by_cases hp:p l[i]=true
      · rw [pe (by rw [h1 i a,if_pos hp]),f (i+1) za,hp,FP]
      · rw [o0 (by rw [h1 i a,if_neg hp])];simp [hp]
  have:=this l.length 0 za
  simpa using this
def m6(c:UInt8):Bool:=(decide (65<=c.toNat)&&decide (c.toNat<=90))||(decide (48<=c.toNat)&&decide (c.toNat<=57))
theorem dec1(n:Nat):decide ((n:Int)>=65)=decide (65<=n):=decide_eq_decide.2 za
theorem dec2(n:Nat):decide ((n:Int)<=90)=decide (n<=90):=decide_eq_decide.2 za
theorem dec3(n:Nat):decide ((n:Int)>=48)=decide (48<=n):=decide_eq_decide.2 za
theorem dec4(n:Nat):decide ((n:Int)<=57)=decide (n<=57):=decide_eq_decide.2 za
theorem plain_eq(c:UInt8):lJ ((c.toNat:Nat):Int)=some (m6 c):=by
  unfold lJ m6
  rw [dec1,dec2,dec3,dec4]
  cases decide (65<=c.toNat)<;>cases decide (c.toNat<=90)<;>cases decide (48<=c.toNat)<;>simp
def i9(s:List UInt8)(lo hi:Int):Bool:=s.all m6&&(decide ((s.length:Int)>=lo)&&decide ((s.length:Int)<=hi))
theorem code_l7{s:List UInt8}(hs:s.length<=9223372036854775807):dE (iI s) (0:Int)=some (if s.all m6=true then .inl ()else .inr false):=by
  refine loop_list s (fun i hi=>?_) ?_
  · unfold iI
    rw [if_pos so,byteO_at rfl hi,w64 za za]
    simp only [zc,plain_eq]
    cases m6 s[i]<;>simp
  · unfold iI
    rw [if_neg sm]
theorem code_eq{s:List UInt8}(hs:s.length<=9223372036854775807)(lo hi:Int):iF s lo hi=some (i9 s lo hi):=by
  unfold iF i9
  rw [code_l7 hs]
  cases s.all m6 with
  |true=>cases decide ((s.length:Int)>=lo)<;>simp
  |false=>rfl
def mX(x:Src):Prop:=x.bH.length<=9223372036854775807∧x.bv.length<=9223372036854775807∧x.bd.length<=9223372036854775807∧x.bL.length<=9223372036854775807
def gi(x:Src):Bool:=i9 x.bH 1 2&&(i9 x.bv 1 5&&(i9 x.bd 0 2&&(decide (x.bd.length≠1)&&i9 x.bL 3 3)))
theorem nC{x:Src}(g:mX x):iZ x=some (gi x):=by
  obtain⟨h1,a,c,f⟩:=g
  unfold iZ gi
  simp only [code_eq h1,code_eq a,code_eq c,code_eq f,zc]
  have e:((x.bd.length:Int) != 1)=decide (x.bd.length≠1):=by
    by_cases h:x.bd.length=1
    · simp [h]
    · simp [h];omega
  rw [e]
  cases i9 x.bH 1 2<;>cases i9 x.bv 1 5<;>cases i9 x.bd 0 2<;>cases decide (x.bd.length≠1)<;>simp
theorem nX{s:List UInt8}{lo:Int}{hi:Nat}(h:i9 s lo hi=true):s.length<=hi:=by
  unfold i9 at h
  simp only [C4,decide_eq_true_eq]at h
  omega
theorem valid_len{x:Src}(h:gi x=true):x.bH.length<=2∧x.bv.length<=5∧x.bd.length<=2∧x.bL.length<=3:=by
  unfold gi at h
  simp only [C4]at h
  exact⟨nX (hi:=2) h.1,nX (hi:=5) h.2.1,nX (hi:=2) h.2.2.1,nX (hi:=3) h.2.2.2.2⟩
end Sq
end Go.Dw.Ss
set_option maxRecDepth 100000
set_option maxHeartbeats 4000000
namespace Go.Dw.Ss
open Go.Dw
abbrev Src:=ag
abbrev Pick:=ak
abbrev Sid:=bj
theorem mod_ok(a b:Int)(f:1<=b)(h1:b<=1000000000):Ok (mN a b) (fun r=>0<=r∧r<b):=by
  unfold mN
  have j:a.tmod b<b:=E9 _ za
  have g: -b<a.tmod b:=by
    rcases EU 0 a with h|h
    · have:=Int.tmod_nonneg b h;omega
    · have e:a.tmod b= -((-a).tmod b):=by rw [Int.neg_tmod];omega
      have:=E9 (-a) (show 0<b by omega)
      omega
  refine FC (fun _=>za) (fun _=>?_)
  refine Es (Ok.rem za) (fun x c=>?_)
  subst c
  refine FC (fun _=>?_) (fun _=>?_)
  · rw [w64 za za]
    exact FF za
  · exact FF za
def cy(d:Src):Prop:=0<=d.fAt∧d.fAt<=d.fL.length∧d.fL.length<=2000
theorem raw_ok(d:Src)(f:cy d):Ok (oH d) (fun r=>cy r.2):=by
  obtain⟨c,h1,a⟩:=f
  unfold oH
  refine FC (fun _=>FF ⟨c,h1,a⟩) (fun h=>?_)
  rw [w64 (n:=d.fAt+1) za za,w64 za za]
  refine Es (Eu za za) (fun x _=>?_)
  refine FF ⟨?_,?_,a⟩<;>simp only<;>omega
theorem dU(k:Int)(d:Src)(f:cy d)(c:1<=k)(h1:k<=1000000000):Ok (cY k d) (fun r=>0<=r.1∧r.1<k∧cy r.2):=by
  unfold cY
  refine Es (raw_ok d f) (fun x g=>?_)
  refine Es (mod_ok _ _ c h1) (fun y a=>?_)
  exact FF ⟨a.1,a.2,g⟩
theorem eu(l:List Int)(d:Src)(f:cy d)(c:l≠ [])(h1:l.length<=1000000):Ok (dw l d) (fun r=>r.1∈l∧cy r.2):=by
  unfold dw
  have:=List.length_pos_iff.2 c
  refine Es (dU _ d f za za) (fun x a=>?_)
  refine Es (Eu a.1 a.2.1) (fun y g=>?_)
  exact FF ⟨g.1,a.2.2⟩
def stas:List (List UInt8):=[[83,49],[83,50],[83,51],[83,52],[83,53],[83,54]]
def IsSid(a:Sid):Prop:=Sq.gi a=true
theorem stas_ok:∀x∈stas,Sq.gi ⟨[65,66],x,[48,48],[66,72,90]⟩=true:=by decide+kernel
theorem source_ok(n:Int):Ok (io n) IsSid:=by
  unfold io
  refine Es (mod_ok n 6 za za) (fun x a=>?_)
  refine Es (Eu a.1 a.2) (fun y c=>?_)
  exact FF (stas_ok y c.1)
theorem new_ok(l:List Int):Ok (oQ l) cy:=by
  unfold oQ
  refine Es (Ok.cut za (by split<;>omega) (by split<;>omega)) (fun x a=>?_)
  subst a
  refine FF ⟨sm,sm,?_⟩
  simp only [List.length_take,List.length_drop]
  split<;>omega
def mG(m:Int)(p:aa):Prop:=(-m<=p.fX∧p.fX<=m)∧(-m<=p.fY∧p.fY<=m)∧(-m<=p.fZ∧p.fZ<=m)
theorem nI(m:Int)(g:0<=m)(h1:m<=1000)(d:Src)(a:cy d):Ok (lL m d) (fun r=>mG m r.1∧cy r.2):=by
  unfold lL
  rw [w64 (n:=2*m) za za,w64 (n:=2*m+1) za za,w64 (n:=m+1) za za]
  refine Es (dU _ _ a za za) (fun c g1=>?_)
  refine Es (dU _ _ g1.2.2 za za) (fun f g2=>?_)
  refine Es (dU _ _ g2.2.2 za za) (fun j g3=>?_)
  rw [w64 (n:=c.1-m) za za,w64 (n:=f.1-m) za za]
  exact FF ⟨⟨zb,zb,zb⟩,g3.2.2⟩
def BoxOk(b:ah):Prop:=mG 40 b.bh∧(0<=b.av.fX-b.bh.fX∧b.av.fX-b.bh.fX<=6)∧(0<=b.av.fY-b.bh.fY∧b.av.fY-b.bh.fY<=6)∧(0<=b.av.fZ-b.bh.fZ∧b.av.fZ-b.bh.fZ<=6)
theorem box_ok(m side:Int)(c:0<=m)(h1:m<=40)(l:0<=side)(p:side<=6)(d:Src)(f:cy d):Ok (Src_Box m side d) (fun r=>BoxOk r.1∧cy r.2):=by
  unfold Src_Box
  rw [w64 (n:=side+1) za za]
  refine Es (nI m c za d f) (fun a g0=>?_)
  refine Es (dU _ _ g0.2 za za) (fun g g1=>?_)
  refine Es (dU _ _ g1.2.2 za za) (fun j g2=>?_)
  refine Es (dU _ _ g2.2.2 za za) (fun k g3=>?_)
  obtain⟨⟨q,t,u⟩, -⟩:=g0
  rw [w64 (n:=a.1.fX+g.1) za za,w64 (n:=a.1.fY+j.1) za za,w64 (n:=a.1.fZ+k.1) za za]
  refine FF ⟨⟨⟨zb,zb,zb⟩,zb,zb,zb⟩,g3.2.2⟩
structure TabOk(t:aw):Prop where
  step:t.bS=20∨t.bS=25∨t.bS=40∨t.bS=100
  len:1<=t.bh.length∧t.bh.length<=30
  same:t.av.length=t.bh.length
  low:∀x∈t.bh,0<=x∧x<=3000
  high:∀x∈t.av,0<=x∧x<=5000
theorem table_ok(d:Src)(u:cy d):Ok (mJ d) (fun r=>TabOk r.1∧cy r.2):=by
  unfold mJ
  refine Es (eu _ d u sm sm) (fun f h1=>?_)
  obtain⟨a,h1⟩:=h1
  have a:f.1=20∨f.1=25∨f.1=40∨f.1=100:=by simpa using a
  refine Es (dU _ _ h1 za za) (fun N t=>?_)
  have j:∃q,Dt .i64 ((400:Int).tdiv f.1)=q∧4<=q∧q<=20:=by
    rcases a with e|e|e|e<;>rw [e]<;>exact⟨_,rfl,by decide,by decide⟩
  have hp:∃q,Dt .i64 (f.1.tdiv 4)=q∧0<=q∧q<=25:=by
    rcases a with e|e|e|e<;>rw [e]<;>exact⟨_,rfl,by decide,by decide⟩
  obtain⟨q,j,F,G⟩:=j
  obtain⟨p,hp,D,E⟩:=hp
  refine Es (P:=fun o=>cy ⟨o.1,o.2.1⟩∧(1<=o.2.2.1.length∧o.2.2.1.length<=30)∧o.2.2.2.length=o.2.2.1.length∧(∀x∈o.2.2.1,0<=x∧x<=3000)∧(∀x∈o.2.2.2,0<=x∧x<=5000))
    (Ez (fun s => (0 ≤ s.2.2.1 ∧ s.2.2.1 ≤ 23) ∧ s.2.2.2.2.2.1.length = s.2.2.1.toNat ∧ s.2.2.2.2.2.2.length = s.2.2.1.toNat ∧ (0 ≤ s.1 ∧ s.1 ≤ 60 * s.2.2.1) ∧ (0 ≤ s.2.1 ∧ s.2.1 ≤ 100 * s.2.2.1 + 2) ∧ cy ⟨s.2.2.2.1, s.2.2.2.2.1⟩ ∧ (∀ x ∈ s.2.2.2.2.2.1, 0 ≤ x ∧ x ≤ 3000) ∧ (∀ x ∈ s.2.2.2.2.2.2, 0 ≤ x ∧ x ≤ 5000))
      (fun s=>(23-s.2.2.1).toNat) ?_ ⟨⟨sm,sm⟩,rfl,rfl,⟨sm,sm⟩,⟨zb,zb⟩,t.2.2,sm,sm⟩) ?_
  · rintro⟨s3,H,z,I,J,K,L⟩ ⟨i0,i1,i2,i3,i4,i5,i6,i7⟩
    simp only at i0 i1 i2 i3 i4 i5 i6 i7
    unfold mC
    refine Es (FE za) (fun B g1=>?_)
    rw [j]at g1;subst g1
    refine Es (dU _ _ i5 za za) (fun C g2=>?_)
    rw [w64 (n:=B+C.1) za za]
    refine FC (fun hle=>?_) (fun y=>?_)
    · refine Es (Er (by simp only [CT,CU];omega)) (fun O g3=>?_)
      refine Es (Er (by simp only [CT,CU];omega)) (fun Q g4=>?_)
      refine Es (eu _ _ g2.2.2 sm sm) (fun g g5=>?_)
      refine Es (FE za) (fun k g6=>?_)
      rw [hp]at g6;subst g6
      refine Es (eu _ _ g5.2 sm sm) (fun l g7=>?_)
      have a1:0<=g.1∧g.1<=35:=by have:=g5.1;simp at this;omega
      have a2:0<=l.1∧l.1<=30:=by have:=g7.1;simp at this;omega
      rw [w64 (n:=g.1+k) za za,w64 (n:=s3+(g.1+k)) za za,w64 (n:=z+1) za za,w64 (by split<;>omega) (by split<;>omega)]
      subst g3 g4
      refine FB ⟨⟨zb,zb⟩,?_,?_,⟨zb,zb⟩,⟨by simp only;split<;>omega,by simp only;split<;>omega⟩,g7.2,?_,?_⟩ zb
      · simp only [DA,CT,CU];omega
      · simp only [DA,CT,CU];omega
      · intro x c
        simp only [Dd,De]at c
        rcases c with c|rfl
        · exact i6 x c
        · omega
      · intro x c
        simp only [Dd,De]at c
        rcases c with c|rfl
        · exact i7 x c
        · omega
    · exact FH ⟨g2.2.2,⟨zb,zb⟩,zb,i6,i7⟩
  · intro o ho
    exact FF ⟨⟨a,ho.2.1,ho.2.2.1,ho.2.2.2.1,ho.2.2.2.2⟩,ho.1⟩
theorem association_ok{k:Int}(hk:0<=k∧k<=6)(d:Src)(p:cy d):Ok (jq k d) (fun r=>(BoxOk r.1.bk∧TabOk r.1.bJ)∧cy r.2):=by
  unfold jq
  refine Es (box_ok 20 k za za za za d p) (fun q h1=>?_)
  refine Es (table_ok _ h1.2) (fun t a=>?_)
  refine Es (eu _ _ a.2 sm sm) (fun u c=>?_)
  refine Es (eu _ _ c.2 sm sm) (fun x f=>?_)
  refine Es (eu _ _ f.2 sm sm) (fun y g=>?_)
  refine Es (eu _ _ g.2 sm sm) (fun z j=>?_)
  refine Es (dU _ _ j.2 za za) (fun B l=>?_)
  exact FF ⟨⟨h1.1,a.1⟩,l.2.2⟩
theorem scale_ok(d:Src)(g:cy d):Ok (nU d) (fun r=>(r.1.bF.bh.length<=30∧r.1.bF.av.length<=30)∧cy r.2):=by
  unfold nU
  refine Es (table_ok _ g) (fun a h1=>?_)
  refine Es (dU _ _ h1.2 za za) (fun t c=>?_)
  refine Es (dU _ _ c.2.2 za za) (fun u f=>?_)
  have k:=h1.1.len;have hs:=h1.1.same
  refine Es (P:=fun o:List Int×List Int=>o.1.length=a.1.bh.length∧o.2.length=a.1.bh.length) (Ez (fun s=>0<=s.1∧s.2.1.length=a.1.bh.length∧s.2.2.length=a.1.bh.length) (fun s=>((a.1.bh.length:Int)-s.1).toNat) ?_ ⟨ET _,rfl,hs⟩) (fun o ho=>FF ⟨⟨zb,zb⟩,f.2.2⟩)
  rintro⟨l,p,q⟩ ⟨i0,i1,i2⟩
  simp only at i0 i1 i2
  unfold mB
  refine FC (fun j=>?_) (fun _=>FH ⟨i1,i2⟩)
  refine Es (FI za za) (fun _ _=>?_)
  refine Es (Eu za za) (fun x g1=>?_)
  refine Es (FE za) (fun y g2=>?_)
  refine Es (FI za za) (fun _ _=>?_)
  refine Es (Eu za za) (fun z g3=>?_)
  refine Es (FE za) (fun B g4=>?_)
  refine Es (FI za za) (fun _ _=>?_)
  refine Es (FG za za) (fun C g5=>?_)
  refine Es (FI za za) (fun _ _=>?_)
  refine Es (FG za za) (fun D g6=>?_)
  subst g5 g6
  rw [w64 za za]
  exact FB ⟨zb,by simpa using i1,by simpa using i2⟩ zb
theorem settings_ok{k:Int}(hk:0<=k∧k<=6)(d:Src)(f:cy d):Ok (lB k d) (fun r=>((BoxOk r.1.ae.bk∧TabOk r.1.ae.bJ)∧(r.1.bN.bF.bh.length<=30∧r.1.bN.bF.av.length<=30))∧cy r.2):=by
  unfold lB
  refine Es (association_ok hk d f) (fun g h1=>?_)
  refine Es (scale_ok _ h1.2) (fun j a=>?_)
  refine Es (eu _ _ a.2 sm sm) (fun l c=>?_)
  exact FF ⟨⟨h1.1,a.1⟩,c.2⟩
theorem response_ok(d:Src)(j:cy d):Ok (gr d) (fun r=>cy r.2):=by
  unfold gr
  refine Es (dU _ _ j za za) (fun t h1=>?_)
  refine Es (P:=fun o=>cy ⟨o.1,o.2.1⟩) (Ez (fun s=>0<=s.1∧s.1+s.2.2.2.length<=4∧cy ⟨s.2.1,s.2.2.1⟩) (fun s=>s.1.toNat) ?_ ⟨zb,by simp only [CU];omega,h1.2.2⟩) (fun o ho=>FF ho)
  rintro⟨s2,s3,q,c⟩ ⟨i0,i1,i2⟩
  simp only at i0 i1 i2
  unfold iL
  have a:∀(x:bq),Ok (pG c [x] 96) (fun r=>r=c++[x]):=fun x=>Er (by simp only [CT,CU];omega)
  refine FC (fun k=>?_) (fun _=>FH i2)
  refine Es (dU _ _ i2 za za) (fun u g1=>?_)
  refine FD (fun _=>?_) (fun _=>FD (fun _=>?_) (fun _=>?_))
  · refine Es (eu _ _ g1.2.2 sm sm) (fun f g2=>?_)
    refine Es (eu _ _ g2.2 sm sm) (fun g g3=>?_)
    refine Es (a _) (fun l g4=>?_)
    subst g4
    rw [w64 (n:=s2-1) za za]
    exact FB ⟨zb,by simp only [DA,CT,CU];omega,g3.2⟩ zb
  · refine Es (dU _ _ g1.2.2 za za) (fun f g2=>?_)
    refine Es (dU _ _ g2.2.2 za za) (fun g g3=>?_)
    refine Es (dU _ _ g3.2.2 za za) (fun l g4=>?_)
    refine Es (dU _ _ g4.2.2 za za) (fun y g5=>?_)
    refine Es (dU _ _ g5.2.2 za za) (fun z g6=>?_)
    refine Es (dU _ _ g6.2.2 za za) (fun B g7=>?_)
    refine Es (a _) (fun p g8=>?_)
    subst g8
    rw [w64 (n:=s2-1) za za]
    exact FB ⟨zb,by simp only [DA,CT,CU];omega,g7.2.2⟩ zb
  · refine Es (dU _ _ g1.2.2 za za) (fun f g2=>?_)
    refine Es (dU _ _ g2.2.2 za za) (fun g g3=>?_)
    refine Es (a _) (fun p g8=>?_)
    subst g8
    rw [w64 (n:=s2-1) za za]
    exact FB ⟨zb,by simp only [DA,CT,CU];omega,g3.2.2⟩ zb
def ChanOk(c:aq):Prop:=c.bA.length<=3∧∀e∈c.bA,mG 60 e.bM
def InvOk(v:ac):Prop:=v.bg.length<=6∧∀c∈v.bg,ChanOk c
theorem sites_ok(d:Src)(l:cy d):Ok (lO 6 d) (fun r=>InvOk r.1∧cy r.2):=by
  unfold lO
  refine Es (P:=fun o=>cy ⟨o.1,o.2.1⟩∧(o.2.2.length<=6∧∀c∈o.2.2,ChanOk c)) (Ez (fun s=>(0<=s.1∧s.1<=6)∧s.2.2.2.length<=s.1.toNat∧(∀c∈s.2.2.2,ChanOk c)∧cy ⟨s.2.1,s.2.2.1⟩) (fun s=>(6-s.1).toNat) ?_ ⟨⟨sm,sm⟩,sm,sm,l⟩) (fun o ho=>FF ⟨ho.2,ho.1⟩)
  rintro⟨s1,s2,s3,k⟩ ⟨i0,i1,i2,i3⟩
  simp only at i0 i1 i2 i3
  unfold kX
  have f:∀(x:aq),Ok (pG k [x] 88) (fun r=>r=k++[x]):=fun x=>Er (by simp only [CT,CU];omega)
  have a:∀{x:aq},ChanOk x->∀c∈k++[x],ChanOk c:=fun g c hc=>by
    simp only [Dd,De]at hc
    rcases hc with hc|rfl
    · exact i2 c hc
    · exact g
  refine FC (fun p=>?_) (fun _=>FH ⟨i3,zb,i2⟩)
  refine FC (fun _=>?_) (fun _=>FH ⟨i3,zb,i2⟩)
  refine Es (nI 60 za za _ i3) (fun u g1=>?_)
  refine Es (response_ok _ g1.2) (fun y g2=>?_)
  refine Es (source_ok _) (fun z g3=>?_)
  refine Es (dU _ _ g2 za za) (fun B g4=>?_)
  rw [w64 (n:=s1+1) za za]
  refine FD (fun _=>?_) (fun _=>FD (fun _=>?_) (fun _=>?_))
  · refine Es (dU _ _ g4.2.2 za za) (fun q g5=>?_)
    refine Es (nI 60 za za _ g5.2.2) (fun C g6=>?_)
    refine Es (response_ok _ g6.2) (fun D g7=>?_)
    refine Es (FI za sm) (fun _ _=>?_)
    refine Es (FA za sm) (fun t g8=>?_)
    obtain⟨x,g,rfl⟩:=g8
    simp at g
    subst g
    refine Es (Er sm) (fun E g9=>?_)
    subst g9
    refine Es (f _) (fun j g10=>?_)
    subst g10
    refine FB ⟨⟨zb,zb⟩,by simp only [DA,CT,CU];omega,a ⟨sm,fun e he=>?_⟩,g7⟩ zb
    simp at he
    rcases he with rfl|rfl
    · exact g1.1
    · exact g6.1
  · refine Es (dU _ _ g4.2.2 za za) (fun q g5=>?_)
    refine Es (FI za sm) (fun _ _=>?_)
    refine Es (FA za sm) (fun t g8=>?_)
    obtain⟨x,g,rfl⟩:=g8
    simp at g
    subst g
    refine Es (f _) (fun j g10=>?_)
    subst g10
    refine FB ⟨⟨zb,zb⟩,by simp only [DA,CT,CU];omega,a ⟨sm,fun e he=>?_⟩,g5.2.2⟩ zb
    simp at he
    subst he
    exact g1.1
  · refine Es (f _) (fun j g10=>?_)
    subst g10
    refine FB ⟨⟨zb,zb⟩,by simp only [DA,CT,CU];omega,a ⟨sm,fun e he=>?_⟩,g4.2.2⟩ zb
    simp at he
    subst he
    exact g1.1
theorem range_ok(a b:Int)(g: -1000<=a)(h1:a<=1000)(j:0<=b-a)(k:b-a<=1000)(d:Src)(c:cy d):Ok (lN a b d) (fun r=>(a<=r.1∧r.1<=b)∧cy r.2):=by
  unfold lN
  rw [w64 (n:=b-a) za za,w64 (n:=b-a+1) za za]
  refine Es (dU _ _ c za za) (fun f g1=>?_)
  rw [w64 (n:=a+f.1) za za]
  exact FF ⟨⟨zb,zb⟩,g1.2.2⟩
theorem point_ok(b:ah)(a:BoxOk b)(d:Src)(c:cy d):Ok (mI b d) (fun r=>mG 60 r.1∧cy r.2):=by
  obtain⟨⟨f,g,j⟩,k,l,p⟩:=a
  unfold mI
  refine Es (range_ok _ _ za za za za d c) (fun q g1=>?_)
  refine Es (range_ok _ _ za za za za _ g1.2) (fun t g2=>?_)
  refine Es (range_ok _ _ za za za za _ g2.2) (fun u g3=>?_)
  exact FF ⟨⟨zb,zb,zb⟩,g3.2⟩
theorem kplace_ok(v:ac)(g:InvOk v)(x:Sid)(t:Int):Ok (m0 v x t) (fun r=>mG 60 r.1):=by
  unfold m0
  have k:mG 60 ⟨0,0,0⟩:=⟨sm,sm,sm⟩
  refine Es (P:=fun o=>match o with| .inl _=>True| .inr r=>mG 60 r.1) (FJ v.bg.length za (fun _=>True) trivial ?_) ?_
  · intro i h1 p _
    unfold lY
    refine FC (fun f=>?_) (fun _=>FH trivial)
    refine Es (Eu za za) (fun c hc=>?_)
    have a:=g.2 c hc.1
    have hlen:=g.1
    refine Es (P:=fun o=>match o with| .inl y=>y=i| .inr r=>mG 60 r.1) (FJ c.bA.length za (fun _=>True) trivial ?_) ?_
    · intro j q u _
      unfold lX
      have l:=a.1
      refine FC (fun f=>?_) (fun _=>FH rfl)
      refine Es (Eu za za) (fun e he=>?_)
      rw [w64 (n:=j+1) za za]
      refine Ew (fun _=>?_) (fun _=>FB ⟨⟨za,za⟩,trivial⟩ za)
      refine FC (fun _=>?_) (fun _=>FB ⟨⟨za,za⟩,trivial⟩ za)
      refine FC (fun _=>?_) (fun _=>FB ⟨⟨za,za⟩,trivial⟩ za)
      exact FH (a.2 e he.1)
    · rintro(y|r) ho
      · simp only at ho⊢
        subst ho
        rw [w64 (n:=y+1) za za]
        exact FB ⟨⟨za,za⟩,trivial⟩ za
      · exact FH ho
  · rintro(y|r) ho
    · exact FF k
    · exact FF ho
def PickOk(p:Pick):Prop:=IsSid p.bc∧0<=p.bV∧p.bV<=p.cb∧p.cb<=p.ch∧p.ch<=200000∧0<=p.bK∧p.bK<=1073741823∧ -1<=p.bO∧p.bO<=1
def PickLo(p:Pick):Prop:=PickOk p∧p.ch<=40000
def PI(n:Nat)(s:Int×Int×List Int×Int×List Pick×Int×Int×Int):Prop:=
  (0<=s.2.1∧s.2.1+s.2.2.2.2.1.length<=n)∧(0<=s.1∧s.1<=2000+1000*s.2.2.2.2.1.length)∧cy ⟨s.2.2.1,s.2.2.2.1⟩∧mG 60 ⟨s.2.2.2.2.2.1,s.2.2.2.2.2.2.1,s.2.2.2.2.2.2.2⟩∧∀p∈s.2.2.2.2.1,PickLo p
theorem k34_ok{n:Nat}(D:n<=20){Q:List Pick×List Int×Int->Prop}{s:Int×Int×List Int×Int×List Pick×Int×Int×Int}{sid:Sid}(hs:IsSid sid)(am:Int×Src)(C:0<=am.1∧am.1<=1048576)(g:Int×Src)(hp:0<=g.1∧g.1<3)(t k:Int)(l:List Int)(at_:Int)(out:List Pick)(x y z e:Int)
    (hk:1<=k∧k+out.length<=n) (r:k=s.2.1) (u:0<=t∧t<=2000+1000*(out.length+1)) (q:cy ⟨l,at_⟩) (f:mG 60 ⟨x,y,z⟩) (c:∀p∈out,PickLo p) (he:0<=e∧e<=30000):
    Ok (gO sid am g t k l at_ out x y z e) (Ok.S (PI n) (fun s=>s.2.1.toNat) Q s):=by
  unfold gO
  refine Es (dU _ _ q za za) (fun j g1=>?_)
  refine Es (dU _ _ g1.2.2 za za) (fun B g2=>?_)
  refine Es (Er (by simp only [CT,CU];omega)) (fun E g3=>?_)
  subst g3
  rw [w64 (n:=e+j.1) za za,w64 (n:=e+j.1+B.1) za za,w64 (n:=g.1-1) za za,w64 (n:=k-1) za za]
  refine FB ⟨⟨zb,by simp only [DA,CT,CU];omega⟩,⟨u.1,by simp only [DA,CT,CU];omega⟩,g2.2.2,f,fun p a=>?_⟩ zb
  simp only [Dd,De]at a
  rcases a with a|rfl
  · exact c p a
  · exact⟨⟨hs,zb,zb,zb,zb,zb,zb,zb,zb⟩,zb⟩
theorem l55_ok(pl:aa×Bool)(f:mG 60 pl.1)(x y z t k:Int)(out:List Pick)(F:mG 60 ⟨x,y,z⟩):Ok (dE (kV pl x y z t k out) (0:Int)) (fun o=>o.1=t∧o.2.1=k∧(0<=o.2.2.1∧o.2.2.1<=300)∧o.2.2.2.1=out∧o.2.2.2.2.1=x∧o.2.2.2.2.2.1=y∧o.2.2.2.2.2.2=z):=by
  obtain⟨a1,a2,a3⟩:=f
  obtain⟨b1,b2,c⟩:=F
  simp only at b1 b2 c
  have a:∀(u v:Int), -60<=u->u<=60-> -60<=v->v<=60->∃q,n0 (Dt .i64 (u-v))=some q∧0<=q∧q<=14400:=by
    intro u v h1 H I J
    have j: -120<=u-v∧u-v<=120:=by omega
    rw [w64 za za]
    have l:0<=(u-v)*(u-v)∧(u-v)*(u-v)<=14400:=by
      constructor
      · rcases EU 0 (u-v)with h|h
        · exact EX h h
        · exact EY h h
      · rcases EU 0 (u-v)with h|h
        · calc (u-v)*(u-v)<=120*120:=EW j.2 j.2 h za
            _=14400:=by decide
        · have:(u-v)*(u-v)=(v-u)*(v-u):=by
            rw [<-E2];congr 1<;>omega
          rw [this]
          calc (v-u)*(v-u)<=120*120:=EW za za za za
            _=14400:=by decide
    refine⟨_,by unfold n0;rw [w64 za za],l.1,l.2⟩
  obtain⟨p,B,K,u1⟩:=a pl.1.fX x a1.1 a1.2 b1.1 b1.2
  obtain⟨r,e2,L,u2⟩:=a pl.1.fY y a2.1 a2.2 b2.1 b2.2
  obtain⟨G,C,N,O⟩:=a pl.1.fZ z a3.1 a3.2 c.1 c.2
  refine Ez (fun s=>0<=s∧s<=300) (fun s=>(300-s).toNat) (fun s hs=>?_) ⟨ET _,za⟩
  unfold kV
  rw [B,e2,C]
  simp only [zc]
  rw [w64 (n:=p+r) za za,w64 (n:=p+r+G) za za]
  have E : 0 ≤ s * s ∧ s * s ≤ 90000 := ⟨EX hs.1 hs.1, by
    calc s*s<=300*300:=EW hs.2 hs.2 hs.1 za
      _=90000:=by decide⟩
  rw [w64 (n:=s*s) za za]
  refine FC (fun D=>?_) (fun _=>FH ⟨rfl,rfl,hs,rfl,rfl,rfl,rfl⟩)
  have g:s<=299:=by
    rcases Int.lt_or_le 299 s with h|h
    · exfalso
      have:s=300:=by omega
      subst this
      omega
    · exact h
  rw [w64 (n:=s+1) za za]
  exact FB ⟨za,za⟩ za
theorem picks_lo(a:aj)(k:BoxOk a.ae.bk∧TabOk a.ae.bJ)(v:ac)(F:InvOk v)(n:Nat)(Y:n<=20)(d:Src)(C:cy d):
    Ok (mH a v n d) (fun r=>(r.1.length<=n∧∀p∈r.1,PickLo p)∧cy r.2):=by
  unfold mH
  refine Es (point_ok _ k.1 d C) (fun x1 h1=>?_)
  refine Es (dU _ _ h1.2 za za) (fun Q z=>?_)
  rw [w64 (n:=(n:Int)+1) za za]
  refine Es (dU _ _ z.2.2 za za) (fun x3 B=>?_)
  rw [w64 (n:=1000+Q.1) za za]
  refine Es (P:=fun o=>(o.1.length<=n∧∀p∈o.1,PickLo p)∧cy ⟨o.2.1,o.2.2⟩) (Ez (PI n) (fun s=>s.2.1.toNat) ?_ ⟨⟨zb,by simp only [CU];omega⟩,⟨zb,by simp only [CU];omega⟩,B.2.2,h1.1,sm⟩) (fun o ho=>FF ⟨ho.1,ho.2⟩)
  rintro⟨l,s5,s6,s7,s8,s9,N,O⟩ ⟨i0,i1,i2,i3,i4⟩
  simp only at i0 i1 i2 i3 i4
  unfold mA
  refine FC (fun D=>?_) (fun _=>FH ⟨⟨zb,i4⟩,i2⟩)
  refine Es (dU _ _ i2 za za) (fun y1 g1=>?_)
  refine Es (source_ok _) (fun y2 g2=>?_)
  refine Es (eu _ _ g1.2.2 sm sm) (fun g g3=>?_)
  have f:0<=g.1∧g.1<=1048576:=by have:=g3.1;simp at this;omega
  refine Es (dU _ _ g3.2 za za) (fun j g4=>?_)
  refine Es (dU _ _ g4.2.2 za za) (fun T g5=>?_)
  refine Es (dU _ _ g5.2.2 za za) (fun y6 g6=>?_)
  rw [w64 (n:=1000+T.1) za za]
  refine FD (fun _=>?_) (fun _=>FD (fun _=>?_) (fun _=>?_))
  · refine Es (point_ok _ k.1 _ g6.2.2) (fun x g7=>?_)
    refine Es (dU _ _ g7.2 za za) (fun y g8=>?_)
    rw [w64 (n:=l+y.1) za za]
    exact k34_ok za g2 g f j ⟨g4.1,g4.2.1⟩ _ _ _ _ _ _ _ _ _ za rfl za g8.2.2 g7.1 i4 za
  · exact k34_ok za g2 g f j ⟨g4.1,g4.2.1⟩ _ _ _ _ _ _ _ _ _ za rfl za g6.2.2 i3 i4 za
  · refine Es (kplace_ok v F _ _) (fun x g7=>?_)
    refine Ew (fun _=>?_) (fun _=>?_)
    · refine Es (l55_ok x g7 _ _ _ _ _ _ i3) (fun o ho=>?_)
      obtain⟨G,H,u,I,J,K,L⟩:=ho
      have c:=k.2
      have X:=c.len
      have E:=c.step
      refine Es (FE za) (fun y g8=>?_)
      have hq:0<=o.2.2.1.tdiv a.ae.bJ.bS∧o.2.2.1.tdiv a.ae.bJ.bS<=300:=by
        refine⟨E8 u.1 za,?_⟩
        have:=E7 (b:=a.ae.bJ.bS) u.1
        omega
      rw [w64 za za]at g8
      subst g8
      rw [w64 (n:=(a.ae.bJ.bh.length:Int)-1) za za]
      refine Es (Eu (by split<;>omega) (by split<;>omega)) (fun t g9=>?_)
      have W:=c.low t g9.1
      refine Es (dU _ _ g6.2.2 za za) (fun q g10=>?_)
      rw [G,H,I,J,K,L,w64 (n:=l+t) za za,w64 (n:=l+t+q.1) za za]
      exact k34_ok za g2 g f j ⟨g4.1,g4.2.1⟩ _ _ _ _ _ _ _ _ _ za rfl za g10.2.2 i3 i4 za
    · exact k34_ok za g2 g f j ⟨g4.1,g4.2.1⟩ _ _ _ _ _ _ _ _ _ za rfl za g6.2.2 i3 i4 za
theorem picks_ok(a:aj)(c:BoxOk a.ae.bk∧TabOk a.ae.bJ)(v:ac)(j:InvOk v)(n:Nat)(g:n<=20)(d:Src)(f:cy d):
    Ok (mH a v n d) (fun r=>(r.1.length<=n∧∀p∈r.1,PickOk p)∧cy r.2):=(picks_lo a c v j n g d f).mono fun _ h=>⟨⟨h.1.1,fun p hp=>(h.1.2 p hp).1⟩,h.2⟩
end Go.Dw.Ss
set_option maxRecDepth 100000
set_option maxHeartbeats 4000000
namespace Go.Dw.Ss
open Go.Dw
theorem hP{α:Type}{l m:List α}{b:Nat}(h:(l.length+m.length)*b<=140737488355328):pG l m b=some (l++m):=by
  unfold pG
  rw [if_pos h]
namespace Sd
abbrev Src:=bj
theorem eq_src(a b:Src):((a.bH==b.bH)&&((a.bv==b.bv)&&((a.bd==b.bd)&&((a.bL==b.bL)&&true))))=decide (a=b):=by
  obtain⟨n,t,l,c⟩:=a
  obtain⟨q,t',p,f⟩:=b
  simp only [bj.mk.injEq]
  by_cases g:n=q<;>by_cases e2:t=t'<;>by_cases j:l=p<;>by_cases k:c=f<;>simp [g,e2,j,k]
theorem cmp_str(a b:List UInt8):dc a b=some (sf a b):=by
  unfold dc fK
  simp only [beq_self_eq_true,FN,zc,Cb,if_false]
  unfold sf
  cases h:Op.bytesLess a b with
  |true=>simp
  |false=>by_cases e:a=b<;>simp [e]
theorem oT{l:List Int}{i j:Nat}(c:j=i+1)(hi:i<l.length)(f:l.length<1000)(a:l[i]=0):dI l i=some (.next (j:Int)):=by
  subst c
  unfold dI
  rw [if_pos so,j0 rfl hi]
  simp only [zc,a,w64 (n:=(i:Int)+1) za za]
  rfl
theorem oU{l:List Int}{i:Nat}(hi:i<l.length)(a:l[i]≠0):dI l i=some (.stop (.inr l[i])):=by
  unfold dI
  rw [if_pos so,j0 rfl hi]
  simp only [zc]
  rw [if_pos (by simpa using a)]
theorem or_end{l:List Int}{n:Nat}(a:n=l.length):dI l n=some (.stop (.inl ())):=by
  subst a
  unfold dI
  rw [if_neg sm]
theorem or4(a b c d:Int):dB [a,b,c,d]=some (if a≠0 then a else if b≠0 then b else if c≠0 then c else d):=by
  show((dE (dI [a,b,c,d]) ((0:Nat):Int)).bind _)=_
  by_cases f:a=0
  · rw [pe (oT (i:=0) (j:=1) rfl sm sm (by simpa using f)),if_neg (by simpa using f)]
    by_cases g:b=0
    · rw [pe (oT (i:=1) (j:=2) rfl sm sm (by simpa using g)),if_neg (by simpa using g)]
      by_cases hc:c=0
      · rw [pe (oT (i:=2) (j:=3) rfl sm sm (by simpa using hc)),if_neg (by simpa using hc)]
        by_cases k:d=0
        · rw [pe (oT (i:=3) (j:=4) rfl sm sm (by simpa using k)),o0 (or_end (n:=4) rfl)]
          rw [k];rfl
        · rw [o0 (oU (i:=3) sm (by simpa using k))];rfl
      · rw [o0 (oU (i:=2) sm (by simpa using hc)),if_pos hc];rfl
    · rw [o0 (oU (i:=1) sm (by simpa using g)),if_pos g];rfl
  · rw [o0 (oU (i:=0) sm (by simpa using f)),if_pos (by simpa using f)];rfl
def jg(a b:Src):Int:=if sf a.bH b.bH≠0 then sf a.bH b.bH else if sf a.bv b.bv≠0 then sf a.bv b.bv else if sf a.bd b.bd≠0 then sf a.bd b.bd else sf a.bL b.bL
theorem kB(a b:Src):gh a b=some (jg a b):=by
  unfold gh
  simp only [cmp_str,zc,or4]
  rfl
theorem jh:Tot jg:=(wG.map fun x:Src=>x.bH).or ((wG.map fun x:Src=>x.bv).or ((wG.map fun x:Src=>x.bd).or (wG.map fun x:Src=>x.bL)))
theorem gP{a b:Src}(h:jg a b=0):a=b:=by
  unfold jg at h
  obtain⟨n,t,l,c⟩:=a
  obtain⟨k,t',j,p⟩:=b
  simp only at h
  by_cases h1:sf n k=0
  · rw [if_neg (by simpa using h1)]at h
    by_cases f:sf t t'=0
    · rw [if_neg (by simpa using f)]at h
      by_cases g:sf l j=0
      · rw [if_neg (by simpa using g)]at h
        rw [wZ]at h h1 f g
        subst h h1 f g;rfl
      · rw [if_pos g]at h;exact(g h).elim
    · rw [if_pos f]at h;exact(f h).elim
  · rw [if_pos h1]at h;exact(h1 h).elim
theorem cmpS_range(a b:Src): -1<=jg a b∧jg a b<=1:=by
  unfold jg
  repeat' split
  all_goals exact AZ _ _
instance : DecidableEq Src := fun a b => decidable_of_iff (a.bH = b.bH ∧ a.bv = b.bv ∧ a.bd = b.bd ∧ a.bL = b.bL) (by
  obtain⟨n,t,l,c⟩:=a
  obtain⟨j,t',g,f⟩:=b
  simp)
theorem eqs(a b:Src):((a.bH==b.bH)&&((a.bv==b.bv)&&((a.bd==b.bd)&&((a.bL==b.bL)&&true))))=decide (a=b):=by
  rw [eq_src]
  exact decide_eq_decide.2 Iff.rfl
theorem ml(a b:Int):cr a b=some (rU a b):=by
  unfold cr ji rU
  simp only [bne_self_eq_false,zc,Cb,if_false]
  by_cases h1:a<b
  · rw [if_pos (decide_eq_true h1),if_pos h1]
  · rw [if_neg (by simpa using h1),if_neg h1]
    by_cases c:a>b
    · rw [if_pos (decide_eq_true c),if_pos c]
    · rw [if_neg (by simpa using c),if_neg c]
theorem or_go{l:List Int}{n:Nat}{r:List Int}(q:l.length<1000)(u:n<=l.length)(f:l.drop n=r):dE (dI l) (n:Int)=some (match r.find? (fun x=>decide (x≠0))with|some x=>.inr x|none=>.inl ()):=by
  induction r generalizing n with
  |nil=>
    have:n=l.length:=by
      have:=congrArg Eh f
      simp at this;omega
    rw [o0 (or_end this)];rfl
  |cons a r t=>
    have c:n<l.length:=by
      have:=congrArg Eh f
      simp at this;omega
    have k:l[n]=a:=by
      rw [Eb c]at f
      exact(List.cons.inj f).1
    have p:l.drop (n+1)=r:=by
      rw [Eb c]at f
      exact(List.cons.inj f).2
    by_cases g:a=0
    · rw [pe (oT (i:=n) (j:=n+1) rfl c q (by rw [k,g])),t za p]
      simp [Ed,g]
    · rw [o0 (oU c (by rw [k];exact g)),k]
      simp [Ed,g]
theorem or6(a b c d e f:Int):dB [a,b,c,d,e,f]=some (if a≠0 then a else if b≠0 then b else if c≠0 then c else if d≠0 then d else if e≠0 then e else f):=by
  unfold dB
  have:=or_go (l:=[a,b,c,d,e,f]) (n:=0) (r:=[a,b,c,d,e,f]) sm sm rfl
  rw [show((0:Int))=((0:Nat):Int)from rfl,this]
  by_cases g:a=0<;>by_cases j:b=0<;>by_cases hc:c=0<;>by_cases k:d=0<;>by_cases he:e=0<;>by_cases hf:f=0<;>simp [Ed,g,j,hc,k,he,hf]
end Sd
open Sd (jg jh gP)
def jb(a b:Pick):Int:=if jg a.bc b.bc≠0 then jg a.bc b.bc else if rU a.cb b.cb≠0 then rU a.cb b.cb else if rU a.bV b.bV≠0 then rU a.bV b.bV else if rU a.ch b.ch≠0 then rU a.ch b.ch else if rU a.bK b.bK≠0 then rU a.bK b.bK else rU a.bO b.bO
theorem kB(a b:Pick):cC a b=some (jb a b):=by
  unfold cC
  simp only [Sd.kB,Sd.ml,zc,Sd.or6]
  rfl
theorem fh:Tot jb:=(jh.map fun x:Pick=>x.bc).or ((vn.map fun x:Pick=>x.cb).or ((vn.map fun x:Pick=>x.bV).or ((vn.map fun x:Pick=>x.ch).or ((vn.map fun x:Pick=>x.bK).or (vn.map fun x:Pick=>x.bO)))))
theorem nG{a b:Int}(h:(if a≠0 then a else b)=0):a=0∧b=0:=by
  by_cases h1:a=0
  · rw [if_neg (by simpa using h1)]at h;exact⟨h1,h⟩
  · rw [if_pos h1]at h;exact(h1 h).elim
theorem cmpP_zero{a b:Pick}(h:jb a b=0):a=b:=by
  unfold jb at h
  obtain⟨h1,h⟩:=nG h
  obtain⟨c,h⟩:=nG h
  obtain⟨f,h⟩:=nG h
  obtain⟨g,h⟩:=nG h
  obtain⟨j,k⟩:=nG h
  rw [BI]at c f g j k
  have:=gP h1
  obtain⟨a1,a2,a3,a4,a5,l⟩:=a
  obtain⟨b1,b2,p,q,r,t⟩:=b
  simp only at*
  subst this c f g j k
  rfl
theorem lt3_eq:lt3 cC=fun x y=>decide (jb x y<0):=by
  funext x y
  unfold lt3
  rw [kB];rfl
theorem Compare_ok:CmpOk cC:=⟨fun x y=>⟨_,kB x y⟩,by rw [lt3_eq];exact fh.swo⟩
instance : DecidableEq Pick := fun a b => decidable_of_iff (a.bc = b.bc ∧ a.cb = b.cb ∧ a.bV = b.bV ∧ a.ch = b.ch ∧ a.bK = b.bK ∧ a.bO = b.bO) (by
  obtain⟨a1,a2,a3,a4,a5,c⟩:=a
  obtain⟨b1,b2,f,g,j,k⟩:=b
  simp)
def eqF(a b:Pick):Bool:=((a.bc.bH==b.bc.bH)&&((a.bc.bv==b.bc.bv)&&((a.bc.bd==b.bc.bd)&&((a.bc.bL==b.bc.bL)&&true))))&&((a.cb==b.cb)&&((a.bV==b.bV)&&((a.ch==b.ch)&&((a.bK==b.bK)&&((a.bO==b.bO)&&true)))))
theorem eqs(a b:Pick):eqF a b=decide (a=b):=by
  obtain⟨a1,a2,a3,a4,a5,c⟩:=a
  obtain⟨b1,b2,f,g,j,k⟩:=b
  unfold eqF
  simp only [Sd.eqs,ak.mk.injEq]
  by_cases l:a1=b1<;>by_cases e2:a2=b2<;>by_cases p:a3=f<;>by_cases q:a4=g<;>by_cases r:a5=j<;>by_cases t:c=k<;>simp [l,e2,p,q,r,t]
theorem Compact_eq(l:List Pick):dR l=wH eqF ⟨⟨[],[],[],[]⟩,0,0,0,0,0⟩ l:=by
  have h1:gf=tc eqF:=by funext s d ⟨a,b,c⟩;rfl
  have f:gg=rV eqF ⟨⟨[],[],[],[]⟩,0,0,0,0,0⟩:=by
    funext d s
    unfold gg rV
    rw [h1]
    rfl
  unfold dR wH
  rw [f]
  refine ite_congr rfl (fun _=>rfl) fun _=>?_
  refine congrArg _ (funext fun o=>?_)
  rcases o with _|_<;>rfl
theorem sort_at{l:List Pick}(j:l.length<=1000):∃m,vC cC l=some m∧m.Perm l∧m.Pairwise (fun x y=>jb x y<=0):=by
  have g := xI Compare_ok (fun x y h f => by
    rw [lt3_eq]at h f
    simp only [decide_eq_false_iff_not]at h f
    have:=fh.tv x y
    exact cmpP_zero za) l za
  generalize hm:(l.mergeSort fun x y=> !lt3 cC y x)=m at g
  refine⟨m,g,Bm g,?_⟩
  rw [<-hm]
  refine(List.pairwise_mergeSort ?_ ?_ l).imp ?_
  · intro a b c h f
    rw [lt3_eq]at*
    simp only [FM,decide_eq_false_iff_not]at*
    have:=fh.tr a b c (by have:=fh.tv a b;omega) (by have:=fh.tv b c;omega)
    have:=fh.tv a c;omega
  · intro a b
    rw [lt3_eq]
    have:=fh.tv a b
    by_cases h:jb b a<0
    · have:¬jb a b<0:=by omega
      simp [this]
    · simp [h]
  · intro a b h
    rw [lt3_eq]at h
    simp only [FM,decide_eq_false_iff_not]at h
    have:=fh.tv a b;omega
theorem Sort_eq{l:List Pick}(f:l.length<=1000):
    ∃r,ln l=some r∧r.Pairwise (fun x y=>jb x y<0)∧(∀x,x∈r↔x∈l)∧r.length<=l.length:=by
  have h1:qq 104 l=some l:=by
    unfold qq
    rw [if_pos za]
  obtain⟨m,a,hp,hs⟩:=sort_at f
  have g:m.length=l.length:=hp.length_eq
  have c:dR m=some (cpt m):=by
    rw [Compact_eq]
    exact A0 (fun x y=>eqs x y) za
  refine⟨cpt m,?_,uw fh (fun x y=>cmpP_zero) hs,fun x=>xK.trans hp.mem_iff,by have:=yc m;omega⟩
  unfold ln
  rw [h1,zc,a,zc,c];rfl
theorem oo:∀{r s:List Pick},r.Pairwise (fun x y=>jb x y<0)->s.Pairwise (fun x y=>jb x y<0)->(∀x,x∈r↔x∈s)->r=s
  | [],[],_,_,_=>rfl
  | [],b::s,_,_,h=>by have:=(h b).2 sm;cases this
  |a::r,[],_,_,h=>by have:=(h a).1 sm;cases this
  |a::r,b::s,h1,q,h=>by
    obtain⟨k,u⟩:=List.pairwise_cons.1 h1
    obtain⟨l,hs⟩:=List.pairwise_cons.1 q
    have g:a=b:=by
      rcases List.mem_cons.1 ((h a).1 sm)with e|hm
      · exact e
      · rcases List.mem_cons.1 ((h b).2 sm)with e|j
        · exact e.symm
        · have B:=l a hm
          have C:=k b j
          have:=fh.tv a b
          omega
    subst g
    have p:∀{t:List Pick},(∀y∈t,jb a y<0)->a∉t:=fun h z=>by have:=h a z;have:=fh.refl a;omega
    have:r=s:=oo u hs fun x=>by
      have:=h x
      simp only [List.mem_cons]at this
      constructor
      · intro c
        rcases this.1 (.inr c)with e|f
        · subst e;exact(p k c).elim
        · exact f
      · intro c
        rcases this.2 (.inr c)with e|f
        · subst e;exact(p l c).elim
        · exact f
    rw [this]
end Go.Dw.Ss
set_option maxRecDepth 100000
set_option maxHeartbeats 4000000
namespace Go.Dw.Ss
open Go.Dw Go.Proofs
open Sd (jg jh gP)
theorem sid_len{x:Sid}(h:Sq.gi x=true):Sq.mX x:=by
  obtain⟨h1,a,c,f⟩:=Sq.valid_len h
  exact⟨za,za,za,za⟩
def P(t:Int):Pick:=⟨⟨[65,66],[83,49],[48,48],[66,72,90]⟩,t,t,t,0,0⟩
def S1:Sid:=⟨[65,66],[83,49],[48,48],[66,72,90]⟩
theorem loop_first{α ω:Type}{body:Int->Option (pa Int (Unit⊕ω))}(l:List α){p:α->Bool}{f:Nat->α->ω}
    (h1:∀(i:Nat)(hi:i<l.length),body i=if p l[i]=true then some (.stop (.inr (f i l[i])))else some (.next ((i+1:Nat):Int)))
    (q:body (l.length:Nat)=some (.stop (.inl ()))):
    (dE body (0:Int)=some (.inl ())∧∀x∈l,p x=false)∨
    ∃(i:Nat)(hi:i<l.length),dE body (0:Int)=some (.inr (f i l[i]))∧p l[i]=true∧∀x∈l.take i,p x=false:=by
  have:∀k i,i+k=l.length->(∀x∈l.take i,p x=false)->(dE body (i:Int)=some (.inl ())∧∀x∈l,p x=false)∨
      ∃(j:Nat)(t:j<l.length),dE body (i:Int)=some (.inr (f j l[j]))∧p l[j]=true∧∀x∈l.take j,p x=false:=by
    intro k
    induction k with
    |zero=>
      intro i hi g
      obtain rfl:i=l.length:=by omega
      exact .inl ⟨o0 q,by simpa using g⟩
    |succ k r=>
      intro i hi g
      have a:i<l.length:=by omega
      cases hp:p l[i]with
      |true=>exact .inr ⟨i,a,o0 (by rw [h1 i a,if_pos hp]),hp,g⟩
      |false=>
        have e:=pe (ω:=Unit⊕ω) (body:=body) (s:=(i:Int)) (s':=((i+1:Nat):Int)) (by rw [h1 i a,if_neg (by simp [hp])])
        rw [e]
        refine r (i+1) za fun x c=>?_
        rw [pn a]at c
        rcases List.mem_append.1 c with c|c
        · exact g x c
        · rw [De]at c;rw [c];exact hp
  have:=this l.length 0 za sm
  simpa using this
theorem n7{α ω:Type}{body:Int->Option (pa Int (Unit⊕ω))}(l:List α){p:α->Bool}{f:α->ω}
    (h1:∀(i:Nat)(hi:i<l.length),body i=if p l[i]=true then some (.stop (.inr (f l[i])))else some (.next ((i+1:Nat):Int)))
    (c:body (l.length:Nat)=some (.stop (.inl ()))):dE body (0:Int)=some (match l.find? p with|none=>.inl ()|some x=>.inr (f x)):=by
  rcases loop_first l (f:=fun _ x=>f x) h1 c with⟨e,h⟩|⟨i,hi,e,hp,h⟩
  · rw [e,List.find?_eq_none.2 fun x a=>by simp [h x a]]
  · rw [e]
    have:l.find? p=some l[i]:=by
      refine List.find?_eq_some_iff_append.2 ⟨hp,l.take i,l.drop (i+1),?_,fun x a=>by simp [h x a]⟩
      rw [<-Eb hi,List.take_append_drop]
    rw [this]
theorem n8{ω:Type}{body:Int->Option (pa Int (Unit⊕ω))}(n:Nat)(h1:∀i:Nat,i<n->body i=some (.next ((i+1:Nat):Int)))(a:body (n:Nat)=some (.stop (.inl ()))):dE body (0:Int)=some (.inl ()):=by
  have:∀k i:Nat,i+k=n->dE body (i:Int)=some (.inl ()):=by
    intro k
    induction k with
    |zero=>
      intro i hi
      obtain rfl:i=n:=by omega
      exact o0 a
    |succ k c=>intro i hi;rw [pe (h1 i za)];exact c (i+1) za
  simpa using this n 0 za
theorem terms_ok{l:List Int}(c:l.length<=1000)(h:∀x∈l, -1048576<=x∧x<=1048576):cG l=some true:=by
  unfold cG dA dT
  rw [n8 l.length (fun i hi=>?_) ?_]
  · rfl
  · unfold ck
    rw [if_neg sm]
  · unfold ck
    have a:=h l[i] (C9 hi)
    rw [if_pos so,j0 rfl hi,zc]
    unfold fH cx
    rw [if_pos (by simpa using a.1),zc,zc,if_neg (by simpa using a.2),w64 za za]
    simp
def mj(x:bq):Prop:=cB x=some true∧(x.ct=2->x.bR=1)∧x.cf.length<=3∧0<=x.cn∧(-1048576<=x.bI.a0∧x.bI.a0<=1048576)∧(-1048576<=x.bG.a0∧x.bG.a0<=1048576)
theorem gain_ok{a b:Int}(c:1<=a∧a<=1048576)(f:1<=b∧b<=1048576):mj ⟨0,⟨a,0,0⟩,⟨b,0,0⟩,[],0,0⟩:=by
  refine⟨?_,sm,sm,sm,zb,zb⟩
  unfold cB cx
  simp [c.1,c.2,f.1,f.2]
theorem section_ok{a b c d e f:Int}(k: -10<=a∧a<=10)(l: -10<=b∧b<=10)(hc: -10<=c∧c<=10)(p:1<=d∧d<=10)(he: -10<=e∧e<=10)(hf: -10<=f∧f<=10):mj ⟨1,⟨a,b,c⟩,⟨d,e,f⟩,[],0,0⟩:=by
  refine⟨?_,sm,sm,sm,zb,zb⟩
  have h1:cG [a,b,c]=some true:=terms_ok sm so
  have g:cG [d,e,f]=some true:=terms_ok sm so
  have j:d≠0:=by omega
  unfold cB
  simp [h1,g,j]
theorem filter_ok{a s:Int}(l:1<=a∧a<=3)(hs:0<=s∧s<=3):mj ⟨2,⟨0,0,0⟩,⟨0,0,0⟩,[a,2,1],1,s⟩:=by
  have h1:a=1∨a=2∨a=3:=by omega
  have k:s=0∨s=1∨s=2∨s=3:=by omega
  refine⟨?_,sm,sm,hs.1,sm,sm⟩
  have j:cG [a,2,1]=some true:=terms_ok sm so
  have c:da [a,2,1]=some (a+3):=by
    unfold da
    rcases h1 with rfl|rfl|rfl
    · rw [uj (n:=4) (o:=4) (by kernel_rfl)];rfl
    · rw [uj (n:=4) (o:=5) (by kernel_rfl)];rfl
    · rw [uj (n:=4) (o:=6) (by kernel_rfl)];rfl
  have f:a+3≠0:=by omega
  have g:0<=s∧s<=3:=by omega
  unfold cB cx
  rw [j,c]
  simp [f,g.1]
  omega
def RespOk(r:bp):Prop:=r.bD.length<=3∧∀x∈r.bD,mj x
theorem responseV(d:Src)(p:cy d):Ok (gr d) (fun r=>RespOk r.1∧cy r.2):=by
  unfold gr
  refine Es (dU _ _ p za za) (fun C h1=>?_)
  refine Es (P:=fun o:List Int×Int×List bq=>cy ⟨o.1,o.2.1⟩∧(o.2.2.length<=3∧∀x∈o.2.2,mj x)) (Ez (fun s=>0<=s.1∧s.1+s.2.2.2.length<=3∧(∀x∈s.2.2.2,mj x)∧cy ⟨s.2.1,s.2.2.1⟩) (fun s=>s.1.toNat) ?_ ⟨zb,by simp only [CU];omega,sm,h1.2.2⟩) (fun o ho=>FF (Q:=fun r:bp×Src=>RespOk r.1∧cy r.2) ⟨ho.2,ho.1⟩)
  rintro⟨s2,s3,B,k⟩ ⟨i0,i1,i2,i3⟩
  simp only at i0 i1 i2 i3
  unfold iL
  have f:∀(x:bq),Ok (pG k [x] 96) (fun r=>r=k++[x]):=fun x=>Er (by simp only [CT,CU];omega)
  have a:∀{x:bq},mj x->∀c∈k++[x],mj c:=fun t c hc=>by
    simp only [Dd,De]at hc
    rcases hc with hc|rfl
    · exact i2 c hc
    · exact t
  refine FC (fun q=>?_) (fun _=>FH ⟨i3,zb,i2⟩)
  refine Es (dU _ _ i3 za za) (fun u g1=>?_)
  refine FD (fun hk=>?_) (fun _=>FD (fun hk=>?_) (fun _=>?_))
  · refine Es (eu _ _ g1.2.2 sm sm) (fun g g2=>?_)
    refine Es (eu _ _ g2.2 sm sm) (fun j g3=>?_)
    refine Es (f _) (fun l g4=>?_)
    subst g4
    have b1:0<=g.1∧g.1<=1048575:=by have:=g2.1;simp at this;omega
    have b2:0<=j.1∧j.1<=999:=by have:=g3.1;simp at this;omega
    rw [w64 (n:=s2-1) za za,w64 (n:=1+g.1) za za,w64 (n:=1+j.1) za za,hk]
    exact FB ⟨zb,by simp only [DA,CT,CU];omega,a (gain_ok za za),g3.2⟩ zb
  · refine Es (dU _ _ g1.2.2 za za) (fun g g2=>?_)
    refine Es (dU _ _ g2.2.2 za za) (fun j g3=>?_)
    refine Es (dU _ _ g3.2.2 za za) (fun l g4=>?_)
    refine Es (dU _ _ g4.2.2 za za) (fun y g5=>?_)
    refine Es (dU _ _ g5.2.2 za za) (fun D g6=>?_)
    refine Es (dU _ _ g6.2.2 za za) (fun E g7=>?_)
    refine Es (f _) (fun z g8=>?_)
    subst g8
    rw [w64 (n:=s2-1) za za,w64 (n:=j.1-3) za za,w64 (n:=l.1-1) za za,w64 (n:=1+y.1) za za,hk]
    exact FB ⟨zb,by simp only [DA,CT,CU];omega,a (section_ok za za za za za za),g7.2.2⟩ zb
  · refine Es (dU _ _ g1.2.2 za za) (fun g g2=>?_)
    refine Es (dU _ _ g2.2.2 za za) (fun j g3=>?_)
    refine Es (f _) (fun z g8=>?_)
    subst g8
    rw [w64 (n:=s2-1) za za,w64 (n:=1+g.1) za za,show u.1=2 by omega]
    exact FB ⟨zb,by simp only [DA,CT,CU];omega,a (filter_ok za za),g3.2.2⟩ zb
def RateOk(r:bW):Prop:=r.bG=1∧(r.bI=100∨r.bI=50∨r.bI=51)
structure EpOk(e:ba):Prop where
  lo:0<=e.b8
  lt:e.b8<e.fTo
  hi:e.fTo<=10000000
  from_:e.b8<=100000
  rate:RateOk e.lj
  resp:RespOk e.bQ
  pos:mG 60 e.bM
structure EpsOk(l:List ba):Prop where
  ne:l≠ []
  len:l.length<=3
  all:∀e∈l,EpOk e
  ord:(l.map fun e=>(e.b8,e.fTo)).Pairwise (fun a b=>a.2<=b.1)
  last:∀e,l.getLast?=some e->e.fTo=100000
def ChOk(c:aq):Prop:=IsSid c.bc∧EpsOk c.bA
structure InvV(v:ac):Prop where
  len:v.bg.length<=6
  all:∀c∈v.bg,ChOk c
  ord:(v.bg.map (·.bc)).Pairwise (fun a b=>jg a b<0)
  net:∀c∈v.bg,c.bc.bH=[65,66]
theorem InvV.inv{v:ac}(h:InvV v):InvOk v:=⟨h.len,fun c hc=>⟨(h.all c hc).2.len,fun e he=>((h.all c hc).2.all e he).pos⟩⟩
def sid(i:Nat):Sid:=⟨[65,66],stas.getD i [],[48,48],[66,72,90]⟩
theorem source_at{n:Int}{i:Nat}(a:n=i)(hi:i<6):io n=some (sid i):=by
  subst a
  have:i=0∨i=1∨i=2∨i=3∨i=4∨i=5:=by omega
  rcases this with rfl|rfl|rfl|rfl|rfl|rfl<;>(show io _=some _;kernel_rfl)
theorem sid_ok{i:Nat}(hi:i<6):IsSid (sid i):=by
  have:i=0∨i=1∨i=2∨i=3∨i=4∨i=5:=by omega
  rcases this with rfl|rfl|rfl|rfl|rfl|rfl<;>(show Sq.gi _=true;decide+kernel)
theorem sid_lt{i j:Nat}(h:i<j)(c:j<6):jg (sid i) (sid j)<0:=by
  have h1:i=0∨i=1∨i=2∨i=3∨i=4:=by omega
  have a:j=1∨j=2∨j=3∨j=4∨j=5:=by omega
  rcases h1 with rfl|rfl|rfl|rfl|rfl<;>rcases a with rfl|rfl|rfl|rfl|rfl<;>first|omega|decide+kernel
theorem eps1{e:ba}(h:EpOk e)(a:e.fTo=100000):EpsOk [e]:=⟨sm,sm,by simpa using h,sm,by simpa using a⟩
theorem eps2{e f:ba}(h:EpOk e)(a:EpOk f)(ho:e.fTo<=f.b8)(c:f.fTo=100000):EpsOk [e,f]:=⟨sm,sm,by simp;exact⟨h,a⟩,by simpa using ho,by simpa using c⟩
def SitesI(s:Int×List Int×Int×List aq):Prop:=∃i:Nat,s.1=i∧i<=6∧s.2.2.2.map (·.bc)=(CC i).map sid∧(∀c∈s.2.2.2,EpsOk c.bA∧c.bA.length<=2)∧cy ⟨s.2.1,s.2.2.1⟩
theorem sitesV{n:Int}(d:Src)(D:cy d):Ok (lO n d) (fun r=>(InvV r.1∧∀c∈r.1.bg,c.bA.length<=2)∧cy r.2):=by
  unfold lO
  refine Es (P:=fun o=>cy ⟨o.1,o.2.1⟩∧InvV ⟨o.2.2⟩∧∀c∈o.2.2,c.bA.length<=2) (Ez SitesI (fun s=>(6-s.1).toNat) ?_ ⟨0,rfl,za,rfl,sm,D⟩) (fun o ho=>FF ⟨ho.2,ho.1⟩)
  rintro⟨s1,s2,s3,k⟩ ⟨i,i0,i1,i2,i3,i4⟩
  simp only at i0 i1 i2 i3 i4
  subst i0
  have hlen:k.length=i:=by have:=congrArg Eh i2;simpa using this
  unfold kX
  have f:∀(x:aq),Ok (pG k [x] 88) (fun r=>r=k++[x]):=fun x=>Er (by simp only [CT,CU];omega)
  have g:InvV ⟨k⟩:=by
    refine⟨zb,fun c hc=>⟨?_,(i3 c hc).1⟩,?_,fun c hc=>?_⟩
    · have:c.bc∈k.map (·.bc):=List.mem_map.2 ⟨c,hc,rfl⟩
      rw [i2]at this
      obtain⟨j,z,e⟩:=List.mem_map.1 this
      rw [<-e]
      exact sid_ok (by have:=List.mem_range.1 z;omega)
    · simp only
      rw [i2,List.pairwise_map]
      exact List.pairwise_lt_range.imp_of_mem fun I C y=>sid_lt y (by have:=List.mem_range.1 C;omega)
    · have:c.bc∈k.map (·.bc):=List.mem_map.2 ⟨c,hc,rfl⟩
      rw [i2]at this
      obtain⟨j,z,e⟩:=List.mem_map.1 this
      rw [<-e];rfl
  have a:∀{l:List ba}{t:Src},i<6->EpsOk l∧l.length<=2->cy t->Ok (some (.next ((i:Int)+1,t.fL,t.fAt,k++[⟨sid i,l⟩]))) (Ok.S SitesI (fun s=>(6-s.1).toNat) (fun o:List Int×Int×List aq=>cy ⟨o.1,o.2.1⟩∧InvV ⟨o.2.2⟩∧∀c∈o.2.2,c.bA.length<=2) ((i:Int),s2,s3,k)):=fun{l t}hi E G=>by
    refine FB ⟨i+1,sm,za,?_,fun c hc=>?_,G⟩ zb
    · simp [List.range_succ,i2]
    · simp only [Dd,De]at hc
      rcases hc with hc|rfl
      · exact i3 c hc
      · exact E
  refine FC (fun F=>?_) (fun _=>FH ⟨i4,g,fun c hc=>(i3 c hc).2⟩)
  refine FC (fun _=>?_) (fun _=>FH ⟨i4,g,fun c hc=>(i3 c hc).2⟩)
  have hi:i<6:=by omega
  refine Es (nI 60 za za _ i4) (fun J g1=>?_)
  refine Es (responseV _ g1.2) (fun K g2=>?_)
  rw [source_at rfl hi,zc]
  refine Es (dU _ _ g2.2 za za) (fun L g4=>?_)
  rw [w64 (n:=(i:Int)+1) za za]
  have u:RateOk ⟨100,1⟩:=⟨rfl,.inl rfl⟩
  refine FD (fun _=>?_) (fun _=>FD (fun _=>?_) (fun _=>?_))
  · refine Es (dU _ _ g4.2.2 za za) (fun B g5=>?_)
    refine Es (nI 60 za za _ g5.2.2) (fun N g6=>?_)
    refine Es (responseV _ g6.2) (fun O g7=>?_)
    refine Es (FI za sm) (fun _ _=>?_)
    refine Es (FA za sm) (fun H g8=>?_)
    obtain⟨x,p,rfl⟩:=g8
    simp at p
    subst p
    refine Es (Er sm) (fun Q g9=>?_)
    subst g9
    refine Es (f _) (fun q g10=>?_)
    subst g10
    rw [w64 (n:=1500+B.1) za za]
    exact a hi ⟨eps2 ⟨sm,zb,zb,sm,u,g2.1,g1.1⟩ ⟨zb,zb,sm,zb,u,g7.1,g6.1⟩ sm sm,sm⟩ g7.2
  · refine Es (dU _ _ g4.2.2 za za) (fun B g5=>?_)
    refine Es (FI za sm) (fun _ _=>?_)
    refine Es (FA za sm) (fun H g8=>?_)
    obtain⟨x,p,rfl⟩:=g8
    simp at p
    subst p
    refine Es (f _) (fun q g10=>?_)
    subst g10
    exact a hi ⟨eps1 ⟨g5.1,zb,sm,zb,u,g2.1,g1.1⟩ sm,sm⟩ g5.2.2
  · refine Es (f _) (fun q g10=>?_)
    subst g10
    exact a hi ⟨eps1 ⟨sm,sm,sm,sm,u,g2.1,g1.1⟩ sm,sm⟩ g4.2.2
end Go.Dw.Ss
set_option maxRecDepth 100000
set_option maxHeartbeats 4000000
namespace Go.Dw.Ss
open Go.Dw Go.Proofs
open Sd (jg jh gP)
theorem clone_at{α:Type}{n:Nat}{l:List α}(h:l.length*n<=140737488355328):qq n l=some l:=by
  unfold qq;rw [if_pos h]
def gq(r:bp):Prop:=r.bD.length<=1000∧∀x∈r.bD,x.cf.length<=1000
theorem copyEpoch_at{e:ba}(h:gq e.bQ):fD e=some e:=by
  obtain⟨h1,f⟩:=h
  unfold fD
  rw [clone_at za,zc]
  have:Ok (dE (et e.bQ.bD) ((0:Int),e.bQ.bD)) (fun o=>o=e.bQ.bD):=by
    refine Ez (fun s=>0<=s.1∧s.1<=e.bQ.bD.length∧s.2=e.bQ.bD) (fun s=>((e.bQ.bD.length:Int)-s.1).toNat) ?_ ⟨ET _,sm,rfl⟩
    rintro⟨s2,s3⟩ ⟨i0,i1,i2⟩
    simp only at i0 i1 i2
    subst i2
    unfold et
    dsimp only
    refine FC (fun g=>?_) (fun _=>FH rfl)
    refine Es (FI za za) (fun _ _=>?_)
    refine Es (Eu za za) (fun x a=>?_)
    have:=f x a.1
    rw [clone_at za,zc]
    refine Es (FI za za) (fun _ _=>?_)
    refine Es (FA za za) (fun y j=>?_)
    obtain⟨z,c,rfl⟩:=j
    obtain rfl:x=z:=by rw [a.2]at c;exact Option.some.inj c
    rw [w64 za za]
    refine FB ⟨zb,zb,?_⟩ zb
    obtain⟨hk,e⟩:=List.getElem?_eq_some_iff.1 a.2
    simp only
    conv=>lhs;rw [<-e]
    exact Ej hk
  rw [this.eq];rfl
def ChLen(c:aq):Prop:=c.bA.length<=1000∧∀e∈c.bA,gq e.bQ
theorem copied_at{c:aq}(h:ChLen c):iN c=some c:=by
  obtain⟨h1,f⟩:=h
  unfold iN
  rw [clone_at za,zc]
  have:Ok (dE (fj c.bA) ((0:Int),c.bA)) (fun o=>o=c.bA):=by
    refine Ez (fun s=>0<=s.1∧s.1<=c.bA.length∧s.2=c.bA) (fun s=>((c.bA.length:Int)-s.1).toNat) ?_ ⟨ET _,sm,rfl⟩
    rintro⟨s2,s3⟩ ⟨i0,i1,i2⟩
    simp only at i0 i1 i2
    subst i2
    unfold fj
    dsimp only
    refine FC (fun g=>?_) (fun _=>FH rfl)
    refine Es (FI za za) (fun _ _=>?_)
    refine Es (Eu za za) (fun x a=>?_)
    rw [copyEpoch_at (f x a.1),zc]
    refine Es (FI za za) (fun _ _=>?_)
    refine Es (FG za za) (fun y j=>?_)
    subst j
    rw [w64 za za]
    refine FB ⟨zb,zb,?_⟩ zb
    obtain⟨hk,e⟩:=List.getElem?_eq_some_iff.1 a.2
    simp only
    conv=>lhs;rw [<-e]
    exact Ej hk
  rw [this.eq];rfl
structure InvLen(v:ac):Prop where
  len:v.bg.length<=1000
  all:∀c∈v.bg,ChLen c
theorem InvV.lens{v:ac}(h:InvV v):InvLen v:=by
  refine⟨by have:=h.len;omega,fun c hc=>?_⟩
  have a:=(h.all c hc).2
  refine⟨by have:=a.len;omega,fun e he=>?_⟩
  have f:=(a.all e he).resp
  exact⟨by have:=f.1;omega,fun x g=>by have:=(f.2 x g).2.2.1;omega⟩
def zCh:aq:=⟨⟨[],[],[],[]⟩,[]⟩
def zEp:ba:=⟨0,0,⟨0,0⟩,⟨0,0,0⟩,⟨[]⟩⟩
def ow(v:ac)(s:Sid):Option aq:=v.bg.find? fun c=>decide (c.bc=s)
def epIn(l:List ba)(t:Int):Option ba:=l.find? fun e=>decide (e.b8<=t∧t<e.fTo)
def epAt(v:ac)(s:Sid)(t:Int):Option ba:=(ow v s).bind fun c=>epIn c.bA t
theorem Find_eq{v:ac}(a:InvLen v)(s:Sid):kb v s=some (match ow v s with|none=>(zCh,false)|some c=>(c,true)):=by
  have g:=a.len
  unfold kb
  rw [n7 v.bg (p:=fun c=>decide (c.bc=s)) (f:=fun c=>(c,true)) (fun i hi=>?_) ?_,zc]
  · unfold ow
    cases v.bg.find? fun c=>decide (c.bc=s)<;>rfl
  · unfold hX
    rw [if_neg sm]
  · unfold hX
    rw [if_pos so,j0 rfl hi,zc,Sd.eqs,copied_at (a.all _ (C9 hi)),zc,w64 za za]
    simp
theorem at_eq{c:aq}(hc:c.bA.length<=1000)(t:Int):lD c t=some (match epIn c.bA t with|none=>(zEp,false)|some e=>(e,true)):=by
  unfold lD
  rw [n7 c.bA (p:=fun e=>decide (e.b8<=t∧t<e.fTo)) (f:=fun e=>(e,true)) (fun i hi=>?_) ?_,zc]
  · unfold epIn
    cases c.bA.find? fun e=>decide (e.b8<=t∧t<e.fTo)<;>rfl
  · unfold jv
    rw [if_neg sm]
  · unfold jv
    rw [if_pos so,j0 rfl hi,zc,w64 za za]
    by_cases h1:c.bA[i].b8<=t<;>by_cases a:t<c.bA[i].fTo<;>simp [h1,a]
theorem chan_mem{v:ac}{s:Sid}{c:aq}(h:ow v s=some c):c∈v.bg∧c.bc=s:=by
  unfold ow at h
  exact⟨Ei h,by simpa using Ee h⟩
theorem epIn_mem{l:List ba}{t:Int}{e:ba}(h:epIn l t=some e):e∈l∧e.b8<=t∧t<e.fTo:=by
  unfold epIn at h
  have:=Ee h
  simp only [decide_eq_true_eq]at this
  exact⟨Ei h,this⟩
theorem At_eq{v:ac}(a:InvLen v)(hV:di v=some true)(s:Sid)(t:Int):iM v s t=some (match epAt v s t with|none=>(zEp,6)|some e=>(e,0)):=by
  unfold iM
  rw [hV,zc,if_neg sm,Find_eq a,zc]
  unfold epAt
  cases hc:ow v s with
  |none=>
    dsimp only
    rw [at_eq (by simp [zCh])]
    rfl
  |some c=>
    dsimp only
    rw [at_eq (a.all c (chan_mem hc).1).1,zc,zc]
    cases epIn c.bA t<;>rfl
end Go.Dw.Ss
set_option maxRecDepth 100000
set_option maxHeartbeats 4000000
namespace Go.Dw.Ss
open Go.Dw
namespace Sd
theorem ref_cmp(a b:List UInt8):fy a b=some (sf a b):=by
  unfold fy sf
  cases h:Op.bytesLess a b with
  |true=>simp
  |false=>by_cases e:a=b<;>simp [e]
theorem kw(a b:Src):jk a b=some (jg a b):=by
  unfold jk jg
  simp only [ref_cmp,zc,bne_iff_ne,ne_eq]
  by_cases h1:sf a.bH b.bH=0<;>by_cases c:sf a.bv b.bv=0<;>by_cases f:sf a.bd b.bd=0<;>by_cases g:sf a.bL b.bL=0<;>simp [h1,c,f,g]
end Sd
open Sd (jg jh gP)
theorem step_int{β:Type}(a b:Int)(k:Option Int):(if(decide (a<b))=true then(some (-1:Int))else(if(decide (a>b))=true then(some (1:Int))else k))=(if rU a b≠0 then some (rU a b)else k):=by
  unfold rU
  by_cases h1:a<b
  · rw [if_pos (decide_eq_true h1)];simp [h1]
  · rw [if_neg (by simpa using h1)]
    by_cases c:a>b
    · rw [if_pos (decide_eq_true c)];simp [h1,c]
    · rw [if_neg (by simpa using c)];simp [h1,c]
theorem some_ite{c:Prop} [Decidable c] (a b:Int):(if c then some a else some b)=some (if c then a else b):=by split<;>rfl
theorem kw(a b:Pick):lc a b=some (jb a b):=by
  unfold lc jb
  rw [Sd.kw,zc]
  have c:((jg a.bc b.bc != (0:Int))=true)=(jg a.bc b.bc≠0):=by simp
  simp only [step_int (β:=Unit),c]
  have hp:(if rU a.bO b.bO≠0 then some (rU a.bO b.bO)else some 0)=some (rU a.bO b.bO):=by
    by_cases h:rU a.bO b.bO=0<;>simp [h]
  rw [hp]
  simp only [some_ite]
end Go.Dw.Ss
set_option maxRecDepth 100000
set_option maxHeartbeats 4000000
namespace Go.Dw.Ss
namespace Iv
open Go.Dw
abbrev Src:=bj
open Sq
open Sd (jg jh gP cmpS_range)
theorem loop_upto{ω:Type}{body:Int->Option (pa Int ω)}(n:Nat){q:Nat->Bool}{u:ω}{r:Nat->ω}(h1:∀i,i<n->body i=if q i=true then some (.next ((i+1:Nat):Int))else some (.stop (r i)))
    (c:body (n:Nat)=some (.stop u)):(dE body (0:Int)=some u∧∀i,i<n->q i=true)∨∃i,i<n∧dE body (0:Int)=some (r i)∧q i=false∧∀j,j<i->q j=true:=by
  have:∀k i,i+k=n->(∀j,j<i->q j=true)->(dE body (i:Int)=some u∧∀i,i<n->q i=true)∨∃m,m<n∧dE body (i:Int)=some (r m)∧q m=false∧∀j,j<m->q j=true:=by
    intro k
    induction k with
    |zero=>
      intro i hi a
      obtain rfl:i=n:=by omega
      exact .inl ⟨o0 c,a⟩
    |succ k g=>
      intro i hi a
      by_cases hp:q i=true
      · rw [pe (by rw [h1 i za,if_pos hp])]
        exact g (i+1) za fun j f=>by
          by_cases e:j=i
          · subst e;exact hp
          · exact a j za
      · exact .inr ⟨i,za,o0 (by rw [h1 i za,if_neg hp]),by simpa using hp,a⟩
  exact this n 0 za fun j a=>by omega
theorem oR{ω:Type}{body:Int->Option (pa Int ω)}(n:Nat){q:Nat->Bool}{u r:ω}(h1:∀i,i<n->body i=if q i=true then some (.next ((i+1:Nat):Int))else some (.stop r))
    (c:body (n:Nat)=some (.stop u)):dE body (0:Int)=some (if(CC n).all q=true then u else r):=by
  rcases loop_upto n h1 c with⟨h,a⟩|⟨i,hi,h,a, -⟩
  · rw [h,if_pos (List.all_eq_true.2 fun i hi=>a i (List.mem_range.1 hi))]
  · rw [h,if_neg (fun f=>by have:=List.all_eq_true.1 f i (List.mem_range.2 hi);rw [a]at this;cases this)]
theorem jw(b c:Bool):(if b=true then some c else some false)=some (b&&c):=by cases b<;>rfl
theorem lk(b:Bool){α:Type}(x y:α):(if(!b)=true then x else y)=if b=true then y else x:=by cases b<;>rfl
theorem ref_code_l16{s:List UInt8}(hs:s.length<=9223372036854775807):dE (iw s) (0:Int)=some (if s.all m6=true then .inl ()else .inr false):=by
  refine loop_list s (fun i hi=>?_) ?_
  · unfold iw
    rw [if_pos so,byteO_at rfl hi,w64 za za]
    simp only [zc,dec1,dec2,dec3,dec4]
    unfold m6
    cases decide (65<=s[i].toNat)<;>cases decide (s[i].toNat<=90)<;>cases decide (48<=s[i].toNat)<;>cases decide (s[i].toNat<=57)<;>simp
  · unfold iw
    rw [if_neg sm]
theorem my{s:List UInt8}(hs:s.length<=9223372036854775807)(lo hi:Int):iv s lo hi=some (i9 s lo hi):=by
  unfold iv i9
  rw [ref_code_l16 hs]
  cases s.all m6 with
  |true=>cases decide ((s.length:Int)>=lo)<;>simp
  |false=>rfl
abbrev cy:=Sq.mX
theorem loc_eq(s:List UInt8):(i9 s 0 2&&decide (s.length≠1))=(decide (s=[])||i9 s 2 2):=by
  unfold i9
  match s with
  | []=>simp
  | [a]=>simp
  | [a,b]=>simp
  |a::b::c::r=>
    have h1:decide (((a::b::c::r).length:Int)<=2)=false:=by simp;omega
    rw [h1];simp
theorem oX{x:Src}(g:cy x):jO x=some (gi x):=by
  obtain⟨h1,a,c,f⟩:=g
  unfold jO gi
  simp only [my h1,my a,my c,my f,zc]
  rw [<-FK (i9 x.bd 0 2),loc_eq]
  by_cases e:x.bd=[]
  · cases i9 x.bH 1 2<;>cases i9 x.bv 1 5<;>simp [e]
  · cases i9 x.bH 1 2<;>cases i9 x.bv 1 5<;>cases i9 x.bd 2 2<;>simp [e]
abbrev Stage:=bq
abbrev Resp:=bp
abbrev Epoch:=ba
abbrev Chan:=aq
def inB(a lo hi:Int):Bool:=decide (a>=lo)&&decide (a<=hi)
theorem rin_eq(a b c:Int):oc a b c=some (inB a b c):=by unfold oc inB;rw [jw]
theorem pin_eq(a b c:Int):cx a b c=some (inB a b c):=rin_eq a b c
theorem iin_eq(a b c:Int):eE a b c=some (inB a b c):=rin_eq a b c
theorem In_eq(a b c:Int):cA a b c=some (inB a b c):=rin_eq a b c
theorem gcd_ok(a b:Int):∃g,mR a b=some g:=by
  obtain ⟨o, h, -⟩ := rZ (body := mr) (fun _ => True) (fun s => s.2.natAbs) (fun _ => True) (by
    rintro⟨x,y⟩-
    unfold mr
    by_cases c:y=0
    · exact .inr ⟨x,by simp [c],trivial⟩
    · refine .inl ⟨(y,x.tmod y),?_,trivial,?_⟩
      · have:(y != 0)=true:=by simpa using c
        simp only [this,if_true]
        unfold tX
        rw [if_neg c];rfl
      · simp only [Int.natAbs_tmod]
        exact Nat.mod_lt _ za) (a,b) trivial
  exact⟨o,by unfold mR;rw [h];rfl⟩
noncomputable def vR (r:bW):Bool:=inB r.bI 1 4096&&(inB r.bG 1 4096&&((mR r.bI r.bG).getD 0==1))
theorem vR_eq(r:bW):kH r=some (vR r):=by
  obtain⟨g,a⟩:=gcd_ok r.bI r.bG
  unfold kH vR
  simp only [rin_eq,zc,a,jw,Ds]
theorem ref_vR_eq(r:bW):nJ r=some (vR r):=vR_eq r
def nq(l:List Int):Bool:=l.all fun x=>inB x (-1048576) 1048576
theorem terms_eq{l:List Int}(f:l.length<=4000000000):cG l=some (nq l):=by
  unfold cG dA dT
  have := loop_upto (body := ck l) l.length (q := fun i => inB (l.getD i 0) (-1048576) 1048576) (u := .inl ()) (r := fun i => .inr (i : Int)) (fun i hi => by
    unfold ck fH
    rw [if_pos so,j0 rfl hi,w64 za za]
    simp only [zc,pin_eq,D7,zd hi,Ds,lk]
    rfl) (by
    unfold ck
    rw [if_neg sm])
  rcases this with⟨h,a⟩|⟨i,hi,h,a, -⟩
  · rw [h]
    have:nq l=true:=List.all_eq_true.2 fun x c=>by
      obtain⟨i,hi,rfl⟩:=Eg c
      have:=a i hi
      simpa [D7,zd hi]using this
    rw [this];rfl
  · rw [h]
    have : nq l = false := List.all_eq_false.2 ⟨l[i], C9 hi, by
      simpa [D7,zd hi]using a⟩
    rw [this]
    simp only [zc]
    rw [show decide ((i:Int)>=0)=true by simp];rfl
theorem nl{l:List Int}(a:l.length<=4000000000):gj l=some (nq l):=by
  unfold gj
  rw [loop_list (body := ix l) l (p := fun x => inB x (-1048576) 1048576) (u := .inl ()) (r := .inr false) (fun i hi => by
    unfold ix
    rw [if_pos so,j0 rfl hi,w64 za za]
    simp only [zc,In_eq,lk]
    rfl) (by
    unfold ix
    rw [if_neg sm])]
  unfold nq
  cases l.all fun x=>inB x (-1048576) 1048576<;>rfl
theorem sum_ok{l:List Int}(f:l.length<=4000000000):∃g,da l=some g:=by
  obtain ⟨o, h, -⟩ := rZ (body := gN l) (fun s => ∃ i : Nat, s.2 = (i : Int) ∧ i ≤ l.length) (fun s => ((l.length : Int) - s.2).toNat) (fun _ => True) (by
    rintro⟨x,y⟩ ⟨i,c,hi⟩
    simp only at c
    subst c
    unfold gN
    by_cases a:i<l.length
    · refine .inl ⟨(Dt .i64 (x+l[i]),((i+1:Nat):Int)),?_,⟨i+1,rfl,za⟩,zb⟩
      simp only
      rw [if_pos so,j0 rfl a,w64 (n:=(i:Int)+1) za za];rfl
    · exact .inr ⟨x,by simp only;rw [if_neg so],trivial⟩) (0,0) ⟨0,rfl,CG _⟩
  exact⟨o,by unfold da;rw [h];rfl⟩
noncomputable def sumB (l:List Int):Int:=(da l).getD 0
theorem sum_eq{l:List Int}(c:l.length<=4000000000):da l=some (sumB l):=by
  obtain⟨g,a⟩:=sum_ok c
  unfold sumB;rw [a];rfl
theorem ref_sum_eq{l:List Int}(a:l.length<=4000000000):iy l=some (sumB l):=sum_eq a
noncomputable def vS (s:Stage):Bool:=
  if s.ct=0 then decide (s.cf=[])&&(s.bR==0)&&(s.cn==0)&&inB s.bI.a0 1 1048576&&inB s.bG.a0 1 1048576&&(s.bI.a1==0)&&(s.bI.a2==0)&&(s.bG.a1==0)&&(s.bG.a2==0)
  else if s.ct=1 then decide (s.cf=[])&&(s.bR==0)&&(s.cn==0)&&nq [s.bI.a0,s.bI.a1,s.bI.a2]&&nq [s.bG.a0,s.bG.a1,s.bG.a2]&&(s.bG.a0 != 0)
  else if s.ct=2 then(s.bI.a0==0)&&(s.bI.a1==0)&&(s.bI.a2==0)&&(s.bG.a0==0)&&(s.bG.a1==0)&&(s.bG.a2==0)&&inB s.cf.length 1 128&&nq s.cf&&(sumB s.cf != 0)&&inB s.bR 1 64&&inB s.cn 0 40
  else false
theorem len0{α:Type} [DecidableEq α] (l:List α):((l.length:Int)==0)=decide (l=[]):=by
  cases l with
  |nil=>rfl
  |cons a l=>simp;omega
theorem vS_eq{s:Stage}(f:s.cf.length<=4000000000):cB s=some (vS s):=by
  unfold cB vS
  simp only [pin_eq,terms_eq f,terms_eq (l:=[s.bI.a0,s.bI.a1,s.bI.a2]) sm,terms_eq (l:=[s.bG.a0,s.bG.a1,s.bG.a2]) sm,sum_eq f,zc,jw,len0]
  by_cases a:s.ct=0
  · rw [if_pos a]
    simp only [a,beq_self_eq_true,if_true,jw]
    cases decide (s.cf=[])<;>cases s.bR==0<;>simp<;>cases s.cn==0<;>simp [FK,Bool.and_comm,Bool.and_left_comm]
  rw [if_neg a]
  have g:(s.ct==0)=false:=by simpa using a
  by_cases h1:s.ct=1
  · rw [if_pos h1]
    simp only [h1,beq_self_eq_true,if_true,jw]
    cases decide (s.cf=[])<;>cases s.bR==0<;>simp [FK]
  rw [if_neg h1]
  have j:(s.ct==1)=false:=by simpa using h1
  by_cases c:s.ct=2
  · rw [if_pos c]
    simp only [c,beq_self_eq_true,if_true,jw]
    cases decide (s.cf=[])<;>cases s.bR==0<;>simp [FK]
  rw [if_neg c]
  have e2:(s.ct==2)=false:=by simpa using c
  simp only [g,j,e2]
  cases decide (s.cf=[])<;>cases s.bR==0<;>simp
theorem ref_vS_eq{s:Stage}(f:s.cf.length<=4000000000):fU s=some (vS s):=by
  unfold fU vS
  simp only [In_eq,nl f,nl (l:=[s.bI.a0,s.bI.a1,s.bI.a2]) sm,nl (l:=[s.bG.a0,s.bG.a1,s.bG.a2]) sm,ref_sum_eq f,zc,jw,len0]
  by_cases a:s.ct=0
  · rw [if_pos a]
    simp only [a,beq_self_eq_true,if_true,jw]
    cases decide (s.cf=[])<;>cases s.bR==0<;>simp [FK]
  rw [if_neg a]
  have g:(s.ct==0)=false:=by simpa using a
  by_cases h1:s.ct=1
  · rw [if_pos h1]
    simp only [h1,beq_self_eq_true,if_true,jw]
    cases decide (s.cf=[])<;>cases s.bR==0<;>simp [FK]
  rw [if_neg h1]
  have j:(s.ct==1)=false:=by simpa using h1
  by_cases c:s.ct=2
  · rw [if_pos c]
    simp only [c,beq_self_eq_true,if_true,jw]
    cases decide (s.cf=[])<;>cases s.bR==0<;>simp [FK]
  rw [if_neg c]
  have e2:(s.ct==2)=false:=by simpa using c
  simp only [g,j,e2]
  cases decide (s.cf=[])<;>cases s.bR==0<;>simp
def jK:Int->List Stage->Bool
  |_,[]=>true
  |p,s::r=>if s.ct=2 then decide (p*s.bR<=64)&&jK (p*s.bR) r else jK p r
theorem prodOk_cons(p:Int)(s:Stage)(r:List Stage):jK p (s::r)=if s.ct=2 then decide (p*s.bR<=64)&&jK (p*s.bR) r else jK p r:=rfl
noncomputable def vP (r:Resp):Bool:=decide (r.bD.length<=8)&&(r.bD.all vS&&jK 1 r.bD)
def ROk(r:Resp):Prop:=r.bD.length<=4000000000∧∀s∈r.bD,s.cf.length<=4000000000
theorem vS_factor{s:Stage}(h:vS s=true)(hk:s.ct=2):1<=s.bR∧s.bR<=64:=by
  unfold vS at h
  rw [if_neg za,if_neg za,if_pos hk]at h
  simp only [C4,inB,decide_eq_true_eq]at h
  omega
theorem allv_eq{r:Resp}(c:ROk r):cp r.bD=some (!(r.bD.all vS)):=by
  obtain⟨j,f⟩:=c
  generalize r.bD=l at*
  unfold cp dH
  have := loop_upto (body := cd l) l.length (q := fun i => match l[i]? with | some s => vS s | none => true) (u := .inl ()) (r := fun i => .inr (i : Int)) (fun i hi => by
    unfold cd fG
    rw [if_pos so,j0 rfl hi,w64 za za]
    simp only [zc,vS_eq (f _ (C9 hi)),zd hi,lk]
    rfl) (by
    unfold cd
    rw [if_neg sm])
  rcases this with⟨h,a⟩|⟨i,hi,h,a, -⟩
  · rw [h]
    have:l.all vS=true:=List.all_eq_true.2 fun x g=>by
      obtain⟨i,hi,rfl⟩:=Eg g
      have:=a i hi
      simpa [zd hi]using this
    rw [this];rfl
  · rw [h]
    have : l.all vS = false := List.all_eq_false.2 ⟨l[i], C9 hi, by
      simpa [zd hi]using a⟩
    rw [this]
    simp only [zc]
    rw [show decide ((i:Int)>=0)=true by simp];rfl
theorem factor_eq{r:Resp}(q:ROk r)(t:r.bD.all vS=true):∃p,fg r.bD=some p∧(decide (p>0)=jK 1 r.bD):=by
  obtain⟨u,z⟩:=q
  generalize r.bD=l at*
  obtain⟨o,h,f⟩:=rZ (body:=dZ l) (fun s=>∃i:Nat,s.2=(i:Int)∧i<=l.length∧1<=s.1∧s.1<=64∧jK 1 l=jK s.1 (l.drop i)) (fun s=>((l.length:Int)-s.2).toNat)
    (fun o => match o with | .inl y => 0 < y ∧ jK 1 l = true | .inr y => y = 0 ∧ jK 1 l = false) (by
    rintro⟨x,y⟩ ⟨i,k,hi,h1,g,a⟩
    simp only at k h1 g a
    subst k
    unfold dZ
    simp only
    by_cases c:i<l.length
    · rw [if_pos so,j0 rfl c,zc,w64 (n:=(i:Int)+1) za za]
      rw [Eb c,prodOk_cons]at a
      have j:vS l[i]=true:=List.all_eq_true.1 t _ (C9 c)
      by_cases hk:l[i].ct=2
      · rw [if_neg (by simpa using hk)]
        rw [if_pos hk]at a
        obtain⟨f1,f2⟩:=vS_factor j hk
        have m1:1<=x*l[i].bR:=by have:=EW h1 f1 za za;omega
        have m2:x*l[i].bR<=64*64:=EW g f2 za za
        rw [w64 (n:=x*l[i].bR) za za]
        by_cases hp:x*l[i].bR<=64
        · rw [if_neg so]
          refine .inl ⟨_,rfl,⟨i+1,rfl,za,m1,hp,?_⟩,zb⟩
          rw [a];simp [hp]
        · rw [if_pos so]
          refine .inr ⟨_,rfl,rfl,?_⟩
          rw [a];simp [hp]
      · rw [if_pos (by simpa using hk)]
        rw [if_neg hk]at a
        exact .inl ⟨_,rfl,⟨i+1,rfl,za,h1,g,a⟩,zb⟩
    · rw [if_neg so]
      refine .inr ⟨_,rfl,za,?_⟩
      rw [a,Ec za];rfl) (1,0) ⟨0,rfl,CG _,zb,zb,rfl⟩
  unfold fg
  rw [h]
  rcases o with y|y
  · exact⟨y,rfl,by rw [f.2];simpa using f.1⟩
  · exact⟨y,rfl,by rw [f.2,f.1];rfl⟩
theorem vP_eq{r:Resp}(c:ROk r):eW r=some (vP r):=by
  unfold eW vP
  by_cases a:r.bD.length<=8
  · rw [if_neg so,allv_eq c,zc]
    cases g:r.bD.all vS with
    |false=>simp
    |true=>
      obtain⟨p,h1,f⟩:=factor_eq c g
      rw [if_neg sm,h1,zc,f];simp [a]
  · rw [if_pos so];simp [a]
theorem ref_vP_eq{r:Resp}(l:ROk r):lp r=some (vP r):=by
  obtain⟨q,p⟩:=l
  obtain⟨o,h,g⟩:=rZ (body:=jy r) (fun s=>∃i:Nat,s.2=(i:Int)∧i<=r.bD.length∧1<=s.1∧s.1<=64∧(r.bD.all vS&&jK 1 r.bD)=((r.bD.drop i).all vS&&jK s.1 (r.bD.drop i))) (fun s=>((r.bD.length:Int)-s.2).toNat)
    (fun o => match o with | .inl _ => (r.bD.all vS && jK 1 r.bD) = true | .inr y => y = false ∧ (r.bD.all vS && jK 1 r.bD) = false) (by
    rintro⟨x,y⟩ ⟨i,k,hi,h1,j,a⟩
    simp only at k h1 j a
    subst k
    unfold jy
    simp only
    by_cases c:i<r.bD.length
    · rw [if_pos so,j0 rfl c,w64 (n:=(i:Int)+1) za za]
      simp only [zc,ref_vS_eq (p _ (C9 c)),lk]
      rw [Eb c,EA,prodOk_cons]at a
      cases f:vS r.bD[i]with
      |false=>rw [f]at a;exact .inr ⟨.inr false,sm,rfl,by rw [a];rfl⟩
      |true=>
      rw [f,FP]at a
      simp only [if_true]
      by_cases hk:r.bD[i].ct=2
      · rw [if_pos (by simpa using hk)]
        rw [if_pos hk]at a
        obtain⟨f1,f2⟩:=vS_factor f hk
        have m1:1<=x*r.bD[i].bR:=by have:=EW h1 f1 za za;omega
        have m2:x*r.bD[i].bR<=64*64:=EW j f2 za za
        rw [w64 (n:=x*r.bD[i].bR) za za]
        by_cases hp:x*r.bD[i].bR<=64
        · rw [if_neg so]
          refine .inl ⟨_,rfl,⟨i+1,rfl,za,m1,hp,?_⟩,zb⟩
          rw [a];simp [hp]
        · rw [if_pos so]
          refine .inr ⟨_,rfl,rfl,?_⟩
          rw [a];simp [hp]
      · rw [if_neg (by simpa using hk)]
        rw [if_neg hk]at a
        exact .inl ⟨_,rfl,⟨i+1,rfl,za,h1,j,a⟩,zb⟩
    · rw [if_neg so]
      refine .inr ⟨_,rfl,?_⟩
      simp only
      rw [a,Ec za];rfl) (1,0) ⟨0,rfl,CG _,zb,zb,rfl⟩
  unfold lp vP
  rw [h,zc]
  have e:decide ((r.bD.length:Int)<=8)=decide (r.bD.length<=8):=decide_eq_decide.2 za
  rcases o with y|y
  · simp only at g
    rw [g,e,FL]
  · rw [g.2,g.1];simp
noncomputable def vE (e:Epoch):Bool:=decide (e.b8>=0)&&(decide (e.b8<e.fTo)&&(decide (e.fTo<=9007199254740992)&&(vR e.lj&&(vP e.bQ&&(inB e.bM.fX (-1048576) 1048576&&(inB e.bM.fY (-1048576) 1048576&&inB e.bM.fZ (-16384) 1048576))))))
theorem vE_eq{e:Epoch}(he:ROk e.bQ):dD e=some (vE e):=by
  unfold dD vE
  simp only [vR_eq,vP_eq he,iin_eq,zc,jw]
theorem ref_vE_eq{e:Epoch}(he:ROk e.bQ):iT e=some (vE e):=by
  unfold iT vE
  simp only [ref_vR_eq,ref_vP_eq he,In_eq,zc,jw]
def EOk(l:List Epoch):Prop:=l.length<=4000000000∧∀e∈l,ROk e.bQ
noncomputable def nQ (l:List Epoch) (i:Nat):Bool:=match l[i]? with
  |some e=>vE e&&(decide (i=0)||match l[i-1]? with|some p=>decide (p.fTo<=e.b8)|none=>true)
  |none=>true
noncomputable def vEs (l:List Epoch):Bool:=(CC l.length).all (nQ l)&&inB l.length 1 32
theorem stepE_0{l:List Epoch}(h:0<l.length):nQ l 0=vE l[0]:=by
  unfold nQ;rw [zd h];simp
theorem stepE_s{l:List Epoch}{i:Nat}(h:i+1<l.length):nQ l (i+1)=(vE l[i+1]&&decide (l[i].fTo<=l[i+1].b8)):=by
  unfold nQ;rw [zd h]
  simp only [El,zd (show i<l.length by omega)]
  simp
theorem epochs_loop{l:List Epoch}(a:EOk l):dE (de l) (0:Int)=some (if(CC l.length).all (nQ l)=true then .inl ()else .inr false):=by
  obtain⟨a,f⟩:=a
  refine oR l.length (fun i hi=>?_) ?_
  · unfold de
    rw [if_pos so,j0 rfl hi,w64 (n:=(i:Int)+1) za za]
    simp only [zc,vE_eq (f _ (C9 hi)),lk]
    match i,hi with
    |0,hi=>
      rw [stepE_0 hi,if_neg (c:=decide (((0:Nat):Int)>0)=true) sm];rfl
    |i+1,hi=>
      rw [stepE_s hi,if_pos (c:=decide (((i+1:Nat):Int)>0)=true) (decide_eq_true za),w64 za za,j0 (i:=i) za za,zc]
      cases vE l[i+1]with
      |false=>simp
      |true=>
        by_cases h:l[i].fTo<=l[i+1].b8
        · rw [if_neg (c:=decide (l[i+1].b8<l[i].fTo)=true) so];simp [h]
        · rw [if_pos (c:=decide (l[i+1].b8<l[i].fTo)=true) so];simp [h]
  · unfold de
    rw [if_neg sm]
theorem epochs_eq{l:List Epoch}(a:EOk l):eP l=some (vEs l):=by
  unfold eP vEs
  rw [epochs_loop a,zc]
  cases(CC l.length).all (nQ l)with
  |true=>simp only [if_true,iin_eq,zc,FP]
  |false=>rfl
theorem ref_epochs_loop{c:Chan}(a:EOk c.bA)(s:Int):dE (gL c s) (0:Int)=some (if(CC c.bA.length).all (nQ c.bA)=true then .inl s else .inr false):=by
  obtain⟨a,f⟩:=a
  refine oR c.bA.length (fun i hi=>?_) ?_
  · unfold gL
    rw [if_pos so,j0 rfl hi,w64 (n:=(i:Int)+1) za za]
    simp only [zc,ref_vE_eq (f _ (C9 hi)),lk]
    match i,hi with
    |0,hi=>
      rw [stepE_0 hi,if_neg (c:=decide (((0:Nat):Int)>0)=true) sm];rfl
    |i+1,hi=>
      rw [stepE_s hi,if_pos (c:=decide (((i+1:Nat):Int)>0)=true) (decide_eq_true za),w64 za za,j0 (i:=i) za za,zc]
      cases vE c.bA[i+1]with
      |false=>simp
      |true=>
        by_cases h:c.bA[i].fTo<=c.bA[i+1].b8
        · rw [if_neg (c:=decide (c.bA[i+1].b8<c.bA[i].fTo)=true) so];simp [h]
        · rw [if_pos (c:=decide (c.bA[i+1].b8<c.bA[i].fTo)=true) so];simp [h]
  · unfold gL
    rw [if_neg sm]
def COk(c:Chan):Prop:=cy c.bc∧EOk c.bA
def IOk(l:List Chan):Prop:=l.length<=4000000000∧∀c∈l,COk c
noncomputable def oZ (l:List Chan) (i:Nat):Bool:=match l[i]? with
  |some c=>gi c.bc&&vEs c.bA&&(decide (i=0)||match l[i-1]? with|some p=>decide (jg p.bc c.bc<0)|none=>true)
  |none=>true
noncomputable def vI (l:List Chan):Bool:=(CC l.length).all (oZ l)&&decide (l.length<=128)
theorem stepI_0{l:List Chan}(h:0<l.length):oZ l 0=(gi l[0].bc&&vEs l[0].bA):=by
  unfold oZ;rw [zd h];simp
theorem stepI_s{l:List Chan}{i:Nat}(h:i+1<l.length):oZ l (i+1)=(gi l[i+1].bc&&vEs l[i+1].bA&&decide (jg l[i].bc l[i+1].bc<0)):=by
  unfold oZ;rw [zd h]
  simp only [El,zd (show i<l.length by omega)]
  simp
theorem vI_eq{l:List Chan}(a:IOk l):di ⟨l⟩=some (vI l):=by
  obtain⟨a,hc⟩:=a
  unfold di vI
  rw [oR (body := du ⟨l⟩) l.length (q := oZ l) (u := .inl ()) (r := .inr false) (fun i hi => by
    unfold du
    simp only
    rw [if_pos so,j0 rfl hi,w64 (n:=(i:Int)+1) za za]
    simp only [zc,nC (hc _ (C9 hi)).1,epochs_eq (hc _ (C9 hi)).2,Sd.kB,lk]
    match i,hi with
    |0,hi=>
      rw [stepI_0 hi,if_neg (c:=decide (((0:Nat):Int)>0)=true) sm]
      cases gi l[0].bc<;>cases vEs l[0].bA<;>simp
    |i+1,hi=>
      rw [stepI_s hi,if_pos (c:=decide (((i+1:Nat):Int)>0)=true) (decide_eq_true za),w64 za za,j0 (i:=i) za za]
      simp only [zc]
      cases gi l[i+1].bc with
      |false=>simp
      |true=>
        cases vEs l[i+1].bA with
        |false=>simp
        |true=>
          by_cases h:jg l[i].bc l[i+1].bc<0
          · rw [if_neg (c:=decide (jg l[i].bc l[i+1].bc>=0)=true) so];simp [h]
          · rw [if_pos (c:=decide (jg l[i].bc l[i+1].bc>=0)=true) so];simp [h]) (by
    unfold du
    rw [if_neg sm]),zc]
  have e:decide ((l.length:Int)<=128)=decide (l.length<=128):=decide_eq_decide.2 za
  cases(CC l.length).all (oZ l)with
  |true=>simp [e]
  |false=>rfl
theorem ref_vI_eq{l:List Chan}(a:IOk l):gl ⟨l⟩=some (vI l):=by
  obtain⟨a,hc⟩:=a
  unfold gl vI
  rw [oR (body := gM ⟨l⟩) l.length (q := oZ l) (u := .inl ()) (r := .inr false) (fun i hi => by
    unfold gM lz
    simp only
    rw [if_pos so,j0 rfl hi]
    simp only [zc,oX (hc _ (C9 hi)).1,ref_epochs_loop (hc _ (C9 hi)).2,Sd.kw,In_eq,lk]
    have he:∀c:Chan,vEs c.bA=((CC c.bA.length).all (nQ c.bA)&&inB c.bA.length 1 32):=fun _=>rfl
    match i,hi with
    |0,hi=>
      rw [stepI_0 hi,if_neg (c:=decide (((0:Nat):Int)>0)=true) sm,he]
      cases gi l[0].bc<;>cases inB l[0].bA.length 1 32<;>cases(CC l[0].bA.length).all (nQ l[0].bA)<;>simp<;>rfl
    |i+1,hi=>
      rw [stepI_s hi,if_pos (c:=decide (((i+1:Nat):Int)>0)=true) (decide_eq_true za),w64 (n:=((i+1:Nat):Int)-1) za za,j0 (i:=i) za za,he]
      have hw:∀j:Int,j=((i+1:Nat):Int)->Dt .i64 (j+1)=((i+1+1:Nat):Int):=fun j f=>by subst f;exact w64 za za
      simp only [zc]
      by_cases h:jg l[i].bc l[i+1].bc<0
      · rw [if_neg (c:=decide (jg l[i].bc l[i+1].bc>=0)=true) so]
        cases gi l[i+1].bc<;>cases inB l[i+1].bA.length 1 32<;>cases(CC l[i+1].bA.length).all (nQ l[i+1].bA)<;>simp only [FP,FL,Bool.false_and,Bool.and_false,if_true,Cb,if_false,h,decide_true,hw _ rfl]
      · rw [if_pos (c:=decide (jg l[i].bc l[i+1].bc>=0)=true) so]
        cases gi l[i+1].bc<;>simp [h]) (by
    unfold gM
    rw [if_neg sm]),zc]
  have e:decide ((l.length:Int)<=128)=decide (l.length<=128):=decide_eq_decide.2 za
  cases(CC l.length).all (oZ l)with
  |true=>simp [e]
  |false=>rfl
theorem loop_run{σ ω:Type}{body:σ->Option (pa σ ω)}(n:Nat)(st:Nat->σ){r:ω}(h1:∀i,i<n->body (st i)=some (.next (st (i+1))))(a:body (st n)=some (.stop r)):dE body (st 0)=some r:=by
  have:∀k i,i+k=n->dE body (st i)=some r:=by
    intro k
    induction k with
    |zero=>
      intro i hi
      obtain rfl:i=n:=by omega
      exact o0 a
    |succ k c=>intro i hi;rw [pe (h1 i za)];exact c (i+1) za
  exact this n 0 za
theorem modO_at{α:Type}{l:List α}{n:Int}{i:Nat}{f:α->α}(a:n=i)(hi:i<l.length):uX l n f=some (l.set i (f l[i])):=by
  subst a
  unfold uX
  rw [if_pos za,DQ,zd hi]
theorem copy18{r:Resp}(a:ROk r):m9 r=some r:=by
  obtain⟨g,c⟩:=a
  have : dE (gW r) ((0 : Int), ([] : List Stage)) = some r.bD := loop_run (body := gW r) r.bD.length (fun i => ((i : Int), r.bD.take i)) (fun i hi => by
    have f:=c _ (C9 hi)
    unfold gW
    simp only
    rw [if_pos (decide_eq_true za),j0 rfl hi,zc,hP so,zc,hP so,zc,w64 za za,pn hi]
    rfl) (by
    unfold gW
    simp only
    rw [if_neg sm,Ek])
  unfold m9
  rw [this];rfl
theorem copyE{e:Epoch}(he:ROk e.bQ):jz e=some e:=by
  unfold jz
  rw [copy18 he];rfl
theorem copyC{l:List Chan}(a:IOk l){k:Nat}(hk:k<l.length)(s2:List Chan):dE (fV ⟨l⟩ (k:Int) s2) ((0:Int),([]:List Epoch))=some ((k:Int),s2,l[k].bA):=by
  obtain⟨he,c⟩:=(a.2 _ (C9 hk)).2
  exact loop_run (body := fV ⟨l⟩ (k : Int) s2) l[k].bA.length (fun i => ((i : Int), l[k].bA.take i)) (fun i hi => by
    unfold fV
    simp only
    rw [j0 rfl hk]
    simp only [zc]
    rw [if_pos (decide_eq_true za),j0 rfl hi,zc,copyE (c _ (C9 hi)),zc,hP so,zc,w64 za za,pn hi]
    rfl) (by
    unfold fV
    simp only
    rw [j0 rfl hk]
    simp only [zc]
    rw [if_neg sm,Ek])
theorem copyI{l:List Chan}(a:IOk l):l8 ⟨l⟩=some ⟨l⟩:=by
  have c:=a.1
  have : dE (fW ⟨l⟩) ((0 : Int), ([] : List Chan)) = some l := loop_run (body := fW ⟨l⟩) l.length (fun i => ((i : Int), l.take i)) (fun i hi => by
    unfold fW
    simp only
    rw [if_pos (decide_eq_true za),j0 rfl hi,zc,copyC a hi,zc]
    simp only
    rw [hP so,zc,w64 za za,pn hi]
    rfl) (by
    unfold fW
    simp only
    rw [if_neg sm,Ek])
  unfold l8
  rw [this];rfl
end Iv
end Go.Dw.Ss
set_option maxRecDepth 100000
set_option maxHeartbeats 4000000
namespace Go.Dw.Ss
open Go.Dw Go.Proofs
open Sd (jg jh gP)
structure IA(v:ac):Prop where
  len:InvLen v
  src:∀c∈v.bg,Sq.mX c.bc
theorem gq.rok{r:bp}(h:gq r):Iv.ROk r:=⟨by have:=h.1;omega,fun s hs=>by have:=h.2 s hs;omega⟩
theorem IA.iok{v:ac}(h:IA v):Iv.IOk v.bg:=
  ⟨by have:=h.len.len;omega,fun c hc=>⟨h.src c hc,by have:=(h.len.all c hc).1;omega,fun e he=>((h.len.all c hc).2 e he).rok⟩⟩
theorem val_eq{v:ac}(h:IA v):di v=some (Iv.vI v.bg):=Iv.vI_eq h.iok
theorem nm{v:ac}(h:IA v):gl v=some (Iv.vI v.bg):=Iv.ref_vI_eq h.iok
theorem InvV.ia{v:ac}(h:InvV v):IA v:=⟨h.lens,fun c hc=>sid_len (h.all c hc).1⟩
noncomputable def atR (v:ac) (s:Sid) (t:Int):ba×Int:=if Iv.vI v.bg=true then(match epAt v s t with|none=>(zEp,6)|some e=>(e,0))else(zEp,1)
theorem At_any{v:ac}(h:IA v)(s:Sid)(t:Int):iM v s t=some (atR v s t):=by
  unfold atR
  cases a:Iv.vI v.bg with
  |true=>
    rw [if_pos rfl,At_eq h.len (by rw [val_eq h,a])]<;>cases epAt v s t<;>rfl
  |false=>
    unfold iM
    rw [val_eq h,a];rfl
theorem refFind_eq{v:ac}(h:IA v)(s:Sid):ng v s=some (match ow v s with|none=>(zCh,false)|some c=>(c,true)):=by
  have g:=h.len.len
  unfold ng
  rw [n7 v.bg (p:=fun c=>decide (c.bc=s)) (f:=fun c=>(c,true)) (fun i hi=>?_) ?_,zc]
  · unfold ow
    cases v.bg.find? fun c=>decide (c.bc=s)<;>rfl
  · unfold lb
    rw [if_neg sm]
  · unfold lb
    have hc:(v.bg.drop i).take (i+1-i)=[v.bg[i]]:=by
      rw [Eb hi,show i+1-i=1 by omega];rfl
    have a : l8 ⟨[v.bg[i]]⟩ = some ⟨[v.bg[i]]⟩ := Iv.copyI ⟨sm, fun c hc => by
      rw [List.mem_singleton.1 hc]
      exact h.iok.2 _ (C9 hi)⟩
    rw [if_pos so,j0 rfl hi,zc,Sd.eqs,w64 za za,Sq.cutO_at (i:=i) (j:=i+1) rfl sm za za,hc,zc,a,zc]
    by_cases e:v.bg[i].bc=s
    · rw [if_pos (by simpa using e),if_pos (by simpa using e)];rfl
    · rw [if_neg (by simpa using e),if_neg (by simpa using e)];simp
theorem refAt_any{v:ac}(h:IA v)(s:Sid)(t:Int):mT v s t=some (atR v s t):=by
  unfold atR
  cases g:Iv.vI v.bg with
  |false=>
    unfold mT
    rw [nm h,g];rfl
  |true=>
    unfold mT
    rw [nm h,g,zc,if_neg sm,refFind_eq h,zc,if_pos rfl]
    have a:∀(c:aq)(b:Bool),c.bA.length<=1000->dE (kg (c,b) t) (0:Int)=some (match epIn c.bA t with|none=>.inl ()|some e=>.inr (e,0)):=fun c b hc=>by
      unfold epIn
      rw [n7 c.bA (p:=fun e=>decide (e.b8<=t∧t<e.fTo)) (f:=fun e=>(e,(0:Int))) (fun i hi=>?_) ?_]
      · cases c.bA.find? fun e=>decide (e.b8<=t∧t<e.fTo)<;>rfl
      · unfold kg
        rw [if_neg sm]
      · unfold kg
        dsimp only
        rw [if_pos so,j0 rfl hi,zc,zc,zc,w64 za za]
        by_cases h1:c.bA[i].b8<=t<;>by_cases j:t<c.bA[i].fTo<;>simp [h1,j]
    unfold epAt
    cases hc:ow v s with
    |none=>
      dsimp only
      rw [a _ _ (by simp [zCh])]
      rfl
    |some c=>
      dsimp only
      rw [a _ _ (h.len.all c (chan_mem hc).1).1]
      simp only [zc]
      cases epIn c.bA t<;>rfl
def SLen(p:Pick):Prop:=Sq.mX p.bc
def vPk(p:Pick):Bool:=Sq.gi p.bc&&(decide (0<=p.bV)&&(decide (p.bV<=p.cb)&&(decide (p.cb<=p.ch)&&(decide (p.ch<=18014398509481984)&&((decide (0<=p.bK)&&decide (p.bK<=1073741823))&&(decide (-1<=p.bO)&&decide (p.bO<=1)))))))
theorem in_eq(a b c:Int):gQ a b c=some (decide (b<=a)&&decide (a<=c)):=by
  unfold gQ
  by_cases h:b<=a
  · rw [if_pos (by simpa using h),decide_eq_true h];rfl
  · rw [if_neg (by simpa using h),decide_eq_false h];rfl
theorem vp_eq{p:Pick}(h:SLen p):dW p=some (vPk p):=by
  unfold dW vPk
  rw [Sq.nC h,zc,in_eq,in_eq]
  by_cases a:Sq.gi p.bc=true
  rotate_left
  · simp [a]
  by_cases h1:0<=p.bV
  rotate_left
  · simp [a,h1]
  by_cases c:p.bV<=p.cb
  rotate_left
  · simp [a,h1,c]
  by_cases f:p.cb<=p.ch
  rotate_left
  · simp [a,h1,c,f]
  by_cases g:p.ch<=18014398509481984
  rotate_left
  · simp [a,h1,c,f,g]
  by_cases j:0<=p.bK<;>by_cases k:p.bK<=1073741823<;>simp [a,h1,c,f,g,j,k]
theorem ref_vp_eq{p:Pick}(h:SLen p):jA p=some (vPk p):=by
  rw [<-vp_eq h]
  have f:jO p.bc=iZ p.bc:=by rw [Iv.oX h,Sq.nC h]
  have e2:∀a b c,cA a b c=gQ a b c:=fun a b c=>rfl
  unfold jA dW
  rw [f]
  simp only [e2]
end Go.Dw.Ss
