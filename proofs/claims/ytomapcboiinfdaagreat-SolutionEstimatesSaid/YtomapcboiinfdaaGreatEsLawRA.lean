
import Derived.Test.YtomapcboiinfdaaGreatEsFn
import Derived.Test.YtomapcboiinfdaaGreatDwOk
import Derived.KernelRfl
import Derived.Test.YtomapcboiinfdaaGreatDwPlain
set_option linter.unusedVariables false
set_option linter.unusedSimpArgs false
open Int renaming add_zero->CP, fdiv_eq_ediv_of_nonneg->CQ, le_ediv_iff_mul_le->CR, le_of_lt->CS, le_refl->CT, le_total->CU, mul_comm->CV, mul_le_mul->CW, mul_nonneg->CX, mul_nonneg_of_nonpos_of_nonpos->CY, natCast_add->CZ, natCast_mul->C0, natCast_pow->C1, neg_mul_neg->C2, one_mul->C3, pow_add->C4, pow_succ->C5, tdiv_eq_ediv_of_nonneg->C6, tdiv_le_self->C7, tdiv_nonneg->C8, tmod_lt_of_pos->C9, toNat_natCast->BV, zero_add->Ca
open List renaming all_cons->CB, drop_eq_getElem_cons->Cb, drop_eq_nil_of_le->Cc, find?->Cd, find?_some->Ce, getD_eq_getElem?_getD->Bd, getElem?_eq_none->Cf, getElem?_set_ne->AU, getElem?_set_self->AV, getElem_mem->Aa, getElem_of_mem->Cg, length->Ch, length_append->BE, length_cons->AW, length_nil->AX, mem_append->Bj, mem_of_find?_eq_some->Ci, mem_singleton->Bk, range->AI, replicate->AA, set_getElem_self->Cj, take_length->Ck
open Nat renaming add_sub_cancel->Cl, eq_zero_or_pos->By, le_refl->AB, mod_eq_of_lt->Cm, pow_le_pow_right->Cn, zero_le->AL
open Go.IntKind renaming wrap->Bw, wrap_i64->Co
open Option renaming bind_fun_some->Cp, getD_some->Cq
open Go.Dw.Ok renaming app->Cr, bind->Cs, eq->Ct, get->Cu, iteB->Cv, iteND->Cw, loop->Cx, mN->Cy, mod->Cz, nx->DA, oD->DB, quo->DC, ret->DD, set->DE, st->DF, tT->DG, upto->DH
open Bool renaming and_assoc->DI, and_eq_true->A5, and_true->DJ, false_eq_true->Ac, not_eq_true'->DK, not_true->DL, or_eq_true->DM, true_and->DN
open Classical renaming byContradiction->DO

set_option maxRecDepth 100000
set_option maxHeartbeats 4000000
namespace Go.Dw.Es
open Go.Dw Go.Proofs
def Dg(l:List Int):Prop:=∀x∈l,0<=x∧x<=1073741823
theorem shr30{n:Int}(a:0<=n):mT .i64 n 30=n / 1073741824:=by
  show n.fdiv (2 ^ (min (30:Int).toNat 64))=n / 1073741824
  rw [CQ _ (by decide)]
  rfl
theorem jd{v:Int}(h:0<=v):qQ v 1073741824=some (v%1073741824):=by
  unfold qQ;rw [if_neg (by decide),Int.tmod_eq_emod_of_nonneg h]
theorem quo_at{v:Int}(h:0<=v)(h1:v<=9223372036854775807):nU .i64 v 1073741824=some (v / 1073741824):=by
  unfold nU;rw [if_neg (by decide),C6 h,w64 om om]
theorem dig_lt{l:List Int}{k:Nat}(h:k<l.length):ff l k=some l[k]:=by
  unfold ff
  rw [if_neg so,mH rfl h];rfl
theorem dig_ge{l:List Int}{k:Nat}(h:l.length<=k):ff l k=some 0:=by
  unfold ff
  rw [if_pos so]
theorem Dg.get{l:List Int}(h:Dg l){k:Nat}(hk:k<l.length):0<=l[k]∧l[k]<=1073741823:=h _ (Aa hk)
theorem Dg.set{l:List Int}(h:Dg l){k:Nat}{x:Int}(a:0<=x∧x<=1073741823):Dg (l.set k x):=fun y b=>by
  rcases List.mem_or_eq_of_mem_set b with h1|rfl
  · exact h y h1
  · exact a
theorem getD_set_ne{l:List Int}{i j:Nat}{x:Int}(h:i≠j):(l.set i x).getD j 0=l.getD j 0:=by
  rw [Bd,Bd,AU h]
theorem getD_set_eq{l:List Int}{i:Nat}{x:Int}(h:i<l.length):(l.set i x).getD i 0=x:=by
  rw [Bd,AV h];rfl
theorem dR{l:List Int}{i:Nat}(h:i<l.length):l.getD i 0=l[i]:=by
  rw [Bd,zc h];rfl
theorem xW{l:List Int}{i:Nat}(h:i<l.length)(a:l[i]=0):l.set i 0=l:=by
  apply List.ext_getElem?
  intro j
  by_cases e:i=j
  · subst e;rw [AV h,zc h,a]
  · rw [AU e]
theorem row_eq(a b:List Int)(i:Nat)(hi:i<a.length)(F:Dg a)(G:Dg b)(y:a.length<=1000)(z:b.length<=1000):∀d k:Nat,k+d=b.length->∀(c:Int)(o:List Int),0<=c->c<=1073741823->Dg o->o.length=a.length+b.length->o.getD (i+b.length) 0=0->
    ∃r,mF (cr b i a[i]) (c,(k:Int),o)=some ((i:Int),r)∧mF (cM b i a) (c,(k:Int),o)=some ((i:Int),r)∧Dg r∧r.length=o.length∧(∀j,i+b.length<j->r.getD j 0=o.getD j 0)∧
      ((d=0->c≠0∨(1<=b.length∧o.getD (i+b.length-1) 0≠0))->(∀h:0<d,1<=a[i]∧1<=b.getD (b.length-1) 0)->1<=b.length->r.getD (i+b.length) 0≠0∨r.getD (i+b.length-1) 0≠0)
  |0,k,hk,c,o,l,D,m,I,C=>by
    have hk:k=b.length:=by omega
    subst hk
    have e:i+b.length<o.length:=by omega
    have g:o[i+b.length]=0:=by rw [<-dR e];exact C
    have p:cr b i a[i] (c,(b.length:Int),o)=some (.next (0,((b.length+1:Nat):Int),o.set (i+b.length) c)):=by
      unfold cr
      dsimp only
      rw [w64 (n := (b.length : Int) + 1) om om, if_pos so, w64 (n := (i : Int) + b.length) om om, if_pos so, qb om om, zb, mH (i := i + b.length) om e, zb,
        dig_ge (AB _),zb,g,Int.mul_zero,w64 (n:=0) om om,CP,w64 (n:=0) om om,CP,w64 (n:=c) om om,jd l,zb,zb,ss (i:=i+b.length) om e,zb,shr30 l]
      rw [show c / 1073741824=0 by omega,show c%1073741824=c by omega]
      rfl
    have e2:cr b i a[i] (0,((b.length+1:Nat):Int),o.set (i+b.length) c)=some (.stop ((i:Int),o.set (i+b.length) c)):=by
      unfold cr
      dsimp only
      rw [w64 (n:=(b.length:Int)+1) om om,if_neg sm]
    refine⟨o.set (i+b.length) c,by rw [mK p,mG e2],?_,m.set ⟨l,D⟩,sm,fun j H=>getD_set_ne om,fun h _ _=>?_⟩
    · by_cases N:0<c
      · have q:cM b i a (c,(b.length:Int),o)=some (.next (0,((b.length+1:Nat):Int),o.set (i+b.length) c)):=by
          unfold cM
          dsimp only
          rw [if_neg sm,if_pos (by simpa using N)]
          unfold fE fD
          rw [w64 (n := (i : Int) + b.length) om om, qb om om, zb, mH (i := i + b.length) om e, zb, if_neg sm, g, CP, w64 (n := c) om om, jd l, zb, zb,
            ss (i:=i+b.length) om e,zb,quo_at l om,zb,w64 (n:=(b.length:Int)+1) om om]
          rw [show c / 1073741824=0 by omega,show c%1073741824=c by omega]
          rfl
        have K:cM b i a (0,((b.length+1:Nat):Int),o.set (i+b.length) c)=some (.stop ((i:Int),o.set (i+b.length) c)):=by
          unfold cM
          dsimp only
          rw [if_neg so,if_neg sm]
        rw [mK q,mG K]
      · have u:c=0:=by omega
        subst u
        rw [xW e g]
        apply mG
        unfold cM
        dsimp only
        rw [if_neg sm,if_neg sm]
    · rcases h rfl with h|⟨h1,h⟩
      · left;rw [getD_set_eq e];exact h
      · right;rw [getD_set_ne om];exact h
  |d+1,k,hk,c,o,l,D,m,I,C=>by
    have f:k<b.length:=by omega
    have e:i+k<o.length:=by omega
    have J:=F.get hi;have B:=G.get f;have ho:=m.get e
    have hp:0<=a[i]*b[k]∧a[i]*b[k]<=1073741823*1073741823:=⟨CX J.1 B.1,CW J.2 B.2 B.1 om⟩
    generalize W:c+(o[i+k]+a[i]*b[k])=v
    have v0:0<=v:=by omega
    have v1:v<=1152921504606846975:=by omega
    have p:cr b i a[i] (c,(k:Int),o)=some (.next (v / 1073741824,((k+1:Nat):Int),o.set (i+k) (v%1073741824))):=by
      unfold cr
      dsimp only
      rw [w64 (n := (b.length : Int) + 1) om om, if_pos so, w64 (n := (i : Int) + k) om om, if_pos so, qb om om, zb, mH (i := i + k) om e, zb,
        dig_lt f,zb,w64 (n:=a[i]*b[k]) om om,w64 (n:=o[i+k]+a[i]*b[k]) om om,W,w64 (n:=v) om om,jd v0,zb,zb,ss (i:=i+k) om e,zb,shr30 v0,w64 (n:=(k:Int)+1) om om]
      rfl
    have q:cM b i a (c,(k:Int),o)=some (.next (v / 1073741824,((k+1:Nat):Int),o.set (i+k) (v%1073741824))):=by
      unfold cM
      dsimp only
      rw [if_pos so]
      unfold fE fD
      rw [w64 (n := (i : Int) + k) om om, qb om om, zb, mH (i := i + k) om e, zb, if_pos so, mH rfl hi, zb, mH rfl f, zb,
        w64 (n:=c+o[i+k]) om om,w64 (n:=a[i]*b[k]) om om,show c+o[i+k]+a[i]*b[k]=v by omega,w64 (n:=v) om om,jd v0,zb,zb,
        ss (i:=i+k) om e,zb,quo_at v0 om,zb,w64 (n:=(k:Int)+1) om om]
      rfl
    obtain⟨r,X,Y,r3,r4,r5,r6⟩:=row_eq a b i hi F G y z d (k+1) om (v / 1073741824) (o.set (i+k) (v%1073741824)) om om (m.set ⟨om,om⟩) (by simpa using I) (by rw [getD_set_ne om];exact C)
    refine⟨r,by rw [mK p,X],by rw [mK q,Y],r3,by rw [r4];simp,fun j H=>by rw [r5 j H,getD_set_ne om],fun _ L E=>?_⟩
    have s:=L om
    refine r6 (fun O=>?_) (fun _=>s) E
    subst O
    have x:k=b.length-1:=by omega
    have t:1<=b[k]:=by rw [<-dR f,x];exact s.2
    have Q:1<=a[i]*b[k]:=by
      have:=CW s.1 t om om;omega
    by_cases T:v / 1073741824=0
    · right
      refine⟨E,?_⟩
      rw [show i+b.length-1=i+k by omega,getD_set_eq e]
      omega
    · exact .inl T
theorem rows_eq(a b:List Int)(u:Dg a)(v:Dg b)(e:a.length<=1000)(f:b.length<=1000):∀d i:Nat,i+d=a.length->∀o:List Int,Dg o->o.length=a.length+b.length->(∀j,i+b.length<=j->o.getD j 0=0)->
    ∃r,mF (cE a b) ((i:Int),o)=some r∧mF (fF a b) ((i:Int),o)=some r∧Dg r∧r.length=o.length∧(0<d->1<=a.getD (a.length-1) 0->1<=b.length->1<=b.getD (b.length-1) 0->∃x∈r,x≠0)
  |0,i,hi,o,g,y,m=>by
    refine⟨o,mG ?_,mG ?_,g,rfl,sm⟩
    · unfold cE;dsimp only;rw [if_neg so]
    · unfold fF;dsimp only;rw [if_neg so]
  |d+1,i,hi,o,g,y,m=>by
    have c:i<a.length:=by omega
    obtain⟨r,z,B,H,N,I,J⟩:=row_eq a b i c u v e f b.length 0 om 0 o om om g y (m _ (AB _))
    have C:cE a b ((i:Int),o)=some (.next (((i+1:Nat):Int),r)):=by
      unfold cE
      dsimp only
      rw [if_pos so,mH rfl c,zb]
      have:((0:Nat):Int)=0:=rfl
      rw [this]at z
      rw [z,zb,w64 (n:=(i:Int)+1) om om]
      rfl
    have e2:fF a b ((i:Int),o)=some (.next (((i+1:Nat):Int),r)):=by
      unfold fF
      dsimp only
      rw [if_pos so]
      have:((0:Nat):Int)=0:=rfl
      rw [this]at B
      rw [B,zb,w64 (n:=(i:Int)+1) om om]
      rfl
    obtain⟨q,p,E,F,L,G⟩:=rows_eq a b u v e f d (i+1) om r H om (fun j K=>by rw [I j om];exact m j om)
    refine⟨q,by rw [mK C,p],by rw [mK e2,E],F,om,fun _ h1 s t=>?_⟩
    rcases By d with k|k
    · subst k
      have D:q=r:=by
        have:mF (cE a b) (((i+1:Nat):Int),r)=some r:=mG (by unfold cE;dsimp only;rw [if_neg so])
        rw [this]at p;exact(Option.some.inj p).symm
      subst D
      have l:=J (fun h=>om) (fun _=>⟨by rw [<-dR c,show i=a.length-1 by omega];exact h1,t⟩) s
      rcases l with h|h
      · refine⟨_,?_,h⟩
        rw [dR om];exact Aa _
      · refine⟨_,?_,h⟩
        rw [dR om];exact Aa _
    · exact G k h1 s t
theorem mult_same{a b:List Int}(k:Dg a)(l:Dg b)(c:a.length<=1000)(f:b.length<=1000):∃r,Dg r∧r.length=a.length+b.length∧eA a b=eH r∧jL a b=eH r∧(1<=a.length->1<=a.getD (a.length-1) 0->1<=b.length->1<=b.getD (b.length-1) 0->∃x∈r,x≠0):=by
  have hm:mkO (Bw .i64 ((a.length:Int)+(b.length:Int))) (0:Int) 8=some (AA (a.length+b.length) 0):=by
    rw [w64 om om]
    unfold mkO
    rw [if_pos ⟨om,om,om⟩]
    congr 2
  obtain ⟨r, g, i, n, o, p⟩ := rows_eq a b k l c f a.length 0 om (AA (a.length + b.length) 0) (fun x m => by rw [List.eq_of_mem_replicate m]; omega) sm (fun j _ => by
    rw [Bd,List.getElem?_replicate];split<;>rfl)
  refine⟨r,n,by rw [o];simp,?_,?_,fun h=>p om⟩
  · unfold eA
    have e:((0:Nat):Int)=0:=rfl
    rw [e]at g
    rw [hm,zb,g,zb,Cp]
  · unfold jL
    have e:((0:Nat):Int)=0:=rfl
    rw [e]at i
    rw [hm,zb,i,zb,Cp]
    rfl
end Go.Dw.Es
set_option maxRecDepth 100000
set_option maxHeartbeats 4000000
namespace Go.Dw.Es
open Go.Dw Go.Proofs
def Top(l:List Int):Prop:=l≠ []->l.getD (l.length-1) 0≠0
theorem trim_of{l:List Int}(h:Top l)(b:l.length<=4000):eH l=some l:=by
  unfold eH
  rw [Cp]
  apply mG
  unfold jm
  by_cases e:l=[]
  · subst e;rw [if_neg sm]
  · have a:0<l.length:=List.length_pos_iff.2 e
    rw [if_pos (by simp;exact a),w64 om om,mH (i:=l.length-1) om om,zb,if_neg]
    have:=h e
    rw [dR om]at this
    simpa using this
theorem trim_zero{l:List Int}(a:l.length<=4000):eH (l++[0])=eH l:=by
  unfold eH
  rw [Cp,Cp]
  apply mK
  unfold jm
  rw [if_pos sm,w64 sm so,mH (i:=l.length) sm sm,zb,if_pos sm]
  unfold sD
  rw [if_pos ⟨sm,sm,so⟩]
  simp
theorem trim_ok{l:List Int}(m:l.length<=4000):Ok (eH l) (fun r=>r.length<=l.length∧Top r∧(Dg l->Dg r)∧((∃x∈l,x≠0)->r≠ [])):=by
  unfold eH
  rw [Cp]
  refine Cx (fun s:List Int=>s.length<=l.length∧(Dg l->Dg s)∧((∃x∈l,x≠0)->∃x∈s,x≠0)) (fun s=>s.length) ?_ ⟨AB _,id,id⟩
  rintro s ⟨i0,i1,i2⟩
  unfold jm
  refine Cy (fun g => ?_) (fun h => DF ⟨i0, fun e => (e (List.length_eq_zero_iff.1 om)).elim, i1, fun b => by
    obtain⟨x,b, -⟩:=i2 b
    intro e;subst e;cases b⟩)
  rw [w64 om om]
  refine Cs (Cu om om) (fun a k => DB (fun f => ?_) (fun f => DF ⟨i0, fun _ => ?_, i1, fun b => by
    obtain⟨x,b, -⟩:=i2 b
    intro e;subst e;cases b⟩))
  · obtain⟨q,rfl⟩:∃q,s=q++[0]:=by
      have c:s≠ []:=by intro e;subst e;simp at g
      refine⟨s.dropLast,?_⟩
      have:=k.2
      rw [show((s.length:Int)-1).toNat=s.length-1 by omega,zc om]at this
      have:=Option.some.inj this
      rw [<-List.getLast_eq_getElem (by exact c),f]at this
      rw [<-this]
      exact(List.dropLast_concat_getLast c).symm
    refine Cs (Ok.cut om sm so) (fun y j=>?_)
    have j:y=q:=by rw [j];simp
    subst j
    simp only [BE,AW,AX]at i0
    refine DA ⟨om,fun h x b=>i1 h x (List.mem_append_left _ b),fun h=>?_⟩ sm
    obtain⟨x,b,i⟩:=i2 h
    rcases List.mem_append.1 b with h|h
    · exact⟨x,h,i⟩
    · rw [List.mem_singleton.1 h]at i;exact(i rfl).elim
  · rw [Bd]
    have:=k.2
    rw [show((s.length:Int)-1).toNat=s.length-1 by omega]at this
    rw [this];exact f
def okD(x:Int):Bool:=decide (0<=x)&&decide (x<=1073741823)
def vN(l:List Int):Bool:=decide (l.length<=64)&&(l.all okD&&(decide (l=[])||decide (l.getD (l.length-1) 0≠0)))
theorem je{l:List Int}:vN l=true↔l.length<=64∧Dg l∧Top l:=by
  unfold vN Top Dg okD
  simp only [A5,decide_eq_true_eq,List.all_eq_true,DM]
  constructor
  · rintro⟨h1,a,b⟩
    exact⟨h1,a,fun c=>b.resolve_left c⟩
  · rintro⟨h1,a,b⟩
    refine⟨h1,a,?_⟩
    by_cases e:l=[]
    · exact .inl e
    · exact .inr (b e)
theorem allD{l:List Int}(y:l.length<=4000):bR l=some (!l.all okD):=by
  refine Ct ?_
  unfold bR dz
  refine Cs (P:=fun r:Int=>(decide (r>=0))= !l.all okD) ?_ (fun r t=>DD t)
  refine Cs (P:=fun o:Unit⊕Int=>match o with| .inl _=>l.all okD=true| .inr r=>0<=r∧l.all okD=false) (DH l.length om (fun i=>∀k,(h:k<l.length)->(k:Int)<i->okD l[k]=true) (fun k _ h=>om) (fun i v h1 J=>?_)) (fun o f=>?_)
  · unfold em iV
    refine Cy (fun s => ?_) (fun q => DF (List.all_eq_true.2 fun x u => by
      obtain⟨k,hk,rfl⟩:=Cg u
      exact J k hk om))
    obtain⟨j,rfl⟩:∃j:Nat,i=j:=⟨i.toNat,om⟩
    refine Cs (Ok.of (mH rfl om) rfl) (fun a(m:l[j]'om=a)=>?_)
    have n:=m.symm
    refine Cs (P:=fun b=>b= !okD a) (Cy (fun h=>DD (by unfold okD;rw [show decide (0<=a)=false from decide_eq_false om];rfl)) (fun h=>DD (by unfold okD;rw [show decide (0<=a)=true from decide_eq_true om,DN];by_cases g:a<=1073741823<;>simp [g]<;>omega))) (fun b c=>?_)
    rw [w64 om om]
    subst c
    refine Cv (fun c=>DF ⟨om,?_⟩) (fun c=>DA ⟨⟨om,om⟩,fun k hk p=>?_⟩ om)
    · refine Bool.eq_false_iff.2 fun h=>?_
      have:=List.all_eq_true.1 h a (by rw [n];exact Aa _)
      rw [this]at c;cases c
    · by_cases e:k=j
      · subst e;rw [<-n];simpa using c
      · exact J k hk om
  · rcases o with _|r
    · refine DD ?_
      simp only at f
      rw [f];decide
    · refine DD ?_
      rw [f.2];simp;exact f.1
theorem nv_eq{l:List Int}(b:l.length<=4000):gf l=some (vN l):=by
  unfold gf vN
  by_cases h:l.length<=64
  · rw [if_neg so]
    by_cases e:l=[]
    · subst e
      rw [if_neg sm,allD sm]
      rfl
    · have c:0<l.length:=List.length_pos_iff.2 e
      rw [if_pos (by simp;exact c),w64 om om,mH (i:=l.length-1) om om,zb,allD b]
      rw [decide_eq_true h,decide_eq_false e,dR om]
      by_cases a:l[l.length-1]=0
      · rw [if_pos (by simp [a])];simp [a]
      · rw [if_neg (by simp [a])];simp [a]
  · rw [if_pos so,decide_eq_false h];rfl
theorem rin_at(a b c:Int):bD a b c=some (decide (b<=a)&&decide (a<=c)):=by
  unfold bD
  by_cases h:b<=a
  · rw [if_pos so];simp [h]
  · rw [if_neg so];simp [h]
theorem lf{l:List Int}(t:l.length<=4000):dt l=some (vN l):=by
  refine Ct ?_
  unfold dt
  refine Cs (P:=fun o:Unit⊕Bool=>match o with| .inl _=>l.all okD=true| .inr r=>r=false∧l.all okD=false) (DH l.length om (fun i=>∀k,(h:k<l.length)->(k:Int)<i->okD l[k]=true) (fun k _ h=>om) (fun i s h1 J=>?_)) (fun o c=>?_)
  · unfold kV
    refine Cy (fun p => ?_) (fun n => DF (List.all_eq_true.2 fun x q => by
      obtain⟨k,hk,rfl⟩:=Cg q
      exact J k hk om))
    obtain⟨j,rfl⟩:∃j:Nat,i=j:=⟨i.toNat,om⟩
    refine Cs (Ok.of (mH rfl om) rfl) (fun a(f:l[j]'om=a)=>?_)
    have g:=f.symm
    rw [rin_at,zb,w64 om om]
    refine Ok.uR (fun b=>DF ⟨rfl,?_⟩) (fun b=>DA ⟨⟨om,om⟩,fun k hk m=>?_⟩ om)
    · refine Bool.eq_false_iff.2 fun h=>?_
      have:=List.all_eq_true.1 h a (by rw [g];exact Aa _)
      unfold okD at this
      rw [this]at b;cases b
    · by_cases e:k=j
      · subst e;rw [<-g];exact b
      · exact J k hk om
  · unfold vN
    rcases o with _|r
    · simp only at c
      rw [c]
      refine Cy (fun h=>?_) (fun h=>DD so)
      by_cases e:l=[]
      · subst e;exact DB (fun _=>DD sm) (fun h=>by simp at h)
      · have u:0<l.length:=List.length_pos_iff.2 e
        refine DB (fun h=>om) (fun _=>?_)
        rw [w64 om om,mH (i:=l.length-1) om om,zb]
        refine DD ?_
        rw [dR om,decide_eq_true om,decide_eq_false e]
        simp;rfl
    · rw [c.2,c.1];exact DD sm
theorem Top.get{l:List Int}(h:Top l)(a:Dg l)(b:1<=l.length):1<=l.getD (l.length-1) 0:=by
  have:=h (by intro e;subst e;simp at b)
  have c:=a.get (k:=l.length-1) om
  rw [dR om]at*
  omega
theorem lim_at{l:List Int}(h:Top l)(a:l.length<=4000):dI l=cL l:=by
  unfold dI cL
  rw [trim_of h a,zb]
theorem mulV{a b:List Int}(m:vN a=true)(n:vN b=true):∃r,eA a b=some r∧jL a b=some r∧Top r∧Dg r∧r.length<=128∧(a≠ []->b≠ []->r≠ []):=by
  obtain⟨a1,a2,a3⟩:=je.1 m
  obtain⟨y,c,i⟩:=je.1 n
  obtain⟨o,p,z,q,s,t⟩:=mult_same a2 c om om
  obtain⟨r,e,B,u,v,x⟩:=trim_ok (l:=o) om
  refine⟨r,by rw [q,e],by rw [s,e],u,v p,om,fun j k=>x ?_⟩
  have f:=List.length_pos_iff.2 j
  have g:=List.length_pos_iff.2 k
  exact t f (a3.get a2 f) g (i.get c g)
theorem Mul_eq{a b:List Int}(c:a.length<=4000)(e:b.length<=4000):∃r,nat_Mul a b=some r∧gY a b=some r∧r.1.length<=64:=by
  unfold nat_Mul gY kR
  rw [nv_eq c,lf c,zb,zb,nv_eq e,lf e]
  cases g:vN a with
  |false=>exact⟨_,rfl,rfl,sm⟩
  |true=>
    cases i:vN b with
    |false=>exact⟨_,rfl,rfl,sm⟩
    |true=>
      obtain⟨r,f,e2,j, -,k, -⟩:=mulV g i
      simp only [if_true,zb,DL,Ac,if_false,f,e2,lim_at j (show r.length<=4000 by omega)]
      unfold cL
      by_cases h:r.length<=64
      · rw [if_neg so];exact⟨_,rfl,rfl,h⟩
      · rw [if_pos so];exact⟨_,rfl,rfl,sm⟩
theorem From_eq{n:Int}(h:n<=9223372036854775807):∃r,mo n=some r∧jZ n=some r∧r.1.length<=4:=by
  unfold mo jZ
  by_cases c:n<0
  · rw [if_pos (by simpa using c),if_pos (by simpa using c)];exact⟨_,rfl,rfl,sm⟩
  · rw [if_neg (by simpa using c),if_neg (by simpa using c)]
    have t:dG=fun s=>if 0<=s.1∧s.1<=9223372036854775807 then cN s else dG s:=by
      funext ⟨x,l⟩
      dsimp only
      by_cases a:0<=x∧x<=9223372036854775807
      · rw [if_pos a]
        unfold dG cN
        dsimp only
        rw [jd a.1,quo_at a.1 a.2,shr30 a.1]
        simp only [zb]
      · rw [if_neg a]
    have key:∀m:Nat,∀x:Int,0<=x->x<=9223372036854775807->x<1073741824 ^ m->∀l:List Int,l.length+m<=4->∃r,mF dG (x,l)=some r∧mF cN (x,l)=some r∧r.length<=4:=by
      intro m
      induction m with
      |zero=>
        intro x b _ i l p
        have:x=0:=by simp at i;omega
        subst this
        exact⟨l,mG (by unfold dG;rfl),mG (by unfold cN;rfl),om⟩
      |succ m q=>
        intro x b i k l p
        by_cases a:x>0
        · have j:nK l [x%1073741824] 8=some (l++[x%1073741824]):=by
            unfold nK;rw [if_pos so]
          have o:dG (x,l)=some (.next (x / 1073741824,l++[x%1073741824])):=by
            unfold dG;dsimp only
            rw [if_pos (by simpa using a),jd b,zb,j,zb,shr30 b]
          have e2:cN (x,l)=some (.next (x / 1073741824,l++[x%1073741824])):=by
            unfold cN;dsimp only
            rw [if_pos (by simpa using a),jd b,zb,j,zb,quo_at b i,zb]
          rw [C5]at k
          obtain⟨r,e,f,g⟩:=q (x / 1073741824) om om (Int.ediv_lt_of_lt_mul om k) (l++[x%1073741824]) so
          exact⟨r,by rw [mK o,e],by rw [mK e2,f],g⟩
        · refine⟨l,mG (by unfold dG;dsimp only;rw [if_neg (by simpa using a)]),mG (by unfold cN;dsimp only;rw [if_neg (by simpa using a)]),om⟩
    obtain⟨r,e,f,g⟩:=key 4 n om h om [] sm
    exact⟨(r,0),by rw [e];rfl,by rw [f];rfl,g⟩
end Go.Dw.Es
set_option maxRecDepth 100000
set_option maxHeartbeats 4000000
namespace Go.Dw.Es
open Go.Dw Go.Proofs
theorem dig_v{l:List Int}(h:Dg l)(k:Nat):ff l k=some (l.getD k 0)∧0<=l.getD k 0∧l.getD k 0<=1073741823:=by
  by_cases hk:k<l.length
  · rw [dig_lt hk,dR hk];exact⟨rfl,h.get hk⟩
  · rw [dig_ge om,Bd,Cf om];exact⟨rfl,sm,sm⟩
theorem app_d{l:List Int}{x:Int}(h:l.length<=4000):nK l [x] 8=some (l++[x]):=by
  unfold nK;rw [if_pos so]
theorem add_step{a b:List Int}(q:Dg a)(r:Dg b){m:Nat}(hm:m=max a.length b.length){i:Nat}(hi:i<m)(s:m<=1000){c:Int}(t:0<=c)(u:c<=1){o:List Int}(x:o.length<=2000):
    let v:=c+(a.getD i 0+b.getD i 0)
    eh b a (c,(i:Int),o)=some (.next (v / 1073741824,((i+1:Nat):Int),o++[v%1073741824]))∧dq a b (c,(i:Int),o)=some (.next (v / 1073741824,((i+1:Nat):Int),o++[v%1073741824])):=by
  obtain⟨a1,a2,a3⟩:=dig_v q i
  obtain⟨j,k,p⟩:=dig_v r i
  intro v
  have v0:0<=v:=by show 0<=c+_;omega
  have v1:v<=9223372036854775807:=by show c+_<=_;omega
  constructor
  · unfold eh
    dsimp only
    rw [show (if (b.length : Int) > (a.length : Int) then (b.length : Int) else (a.length : Int)) = (m : Int) by split <;> omega, w64 (n := (m : Int) + 1) om om, if_pos so, a1, zb, j, zb,
      w64 (n:=a.getD i 0+b.getD i 0) om om,show c+(a.getD i 0+b.getD i 0)=v from rfl,w64 (n:=v) om om,jd v0,zb,app_d om,zb,shr30 v0,w64 (n:=(i:Int)+1) om om]
    rfl
  · have e:∀w:Int,w=v->eM o i w=some (.next (v / 1073741824,((i+1:Nat):Int),o++[v%1073741824])):=fun w hw=>by
      subst hw
      unfold eM
      rw [jd v0,zb,app_d om,zb,quo_at v0 v1,zb,w64 (n:=(i:Int)+1) om om]
      rfl
    have f:∀w:Int,w=c+a.getD i 0->eN i b o w=some (.next (v / 1073741824,((i+1:Nat):Int),o++[v%1073741824])):=fun w hw=>by
      subst hw
      unfold eN
      by_cases h:i<b.length
      · rw [if_pos so,mH rfl h,zb]
        rw [dR h]at k p
        refine e _ ?_
        rw [w64 om om]
        show _=c+(_+b.getD i 0)
        rw [dR h];omega
      · rw [if_neg so]
        refine e _ ?_
        show _=c+(_+b.getD i 0)
        rw [Bd (l:=b),Cf (l:=b) om]
        simp
    have g:dO i a b o c=some (.next (v / 1073741824,((i+1:Nat):Int),o++[v%1073741824])):=by
      unfold dO
      by_cases h:i<a.length
      · rw [if_pos so,mH rfl h,zb]
        refine f _ ?_
        rw [dR h]at a2 a3
        rw [w64 om om,dR h]
      · rw [if_neg so]
        refine f _ ?_
        rw [Bd,Cf om]
        simp
    unfold dq
    dsimp only
    by_cases h:i<a.length
    · rw [if_pos so,g]
    · rw [if_neg so,if_pos so,g]
theorem Top_snoc{l:List Int}{x:Int}(h:x≠0):Top (l++[x]):=fun _=>by
  rw [Bd];simp [h]
theorem add_loop{a b:List Int}(k:Dg a)(l:Dg b)(q:Top a)(s:Top b){m:Nat}(hm:m=max a.length b.length)(j:m<=1000):∀d i:Nat,i+d=m->∀(c:Int)(o:List Int),0<=c->c<=1->o.length=i->(d=0->c=0->Top o)->
    ∃r f,mF (eh b a) (c,(i:Int),o)=some f∧mF (dq a b) (c,(i:Int),o)=some r∧Top r∧f.length<=m+1∧r.length<=m+1∧(f=r∨f=r++[0])
  |0,i,hi,c,o,e,p,z,u=>by
    have g:eh b a (c,(i:Int),o)=some (.next (0,((i+1:Nat):Int),o++[c])):=by
      unfold eh
      dsimp only
      rw [show (if (b.length : Int) > (a.length : Int) then (b.length : Int) else (a.length : Int)) = (m : Int) by split <;> omega, w64 (n := (m : Int) + 1) om om, if_pos so, dig_ge om, zb, dig_ge om, zb,
        CP,w64 (n:=0) om om,CP,w64 (n:=c) om om,jd e,zb,app_d om,zb,shr30 e,w64 (n:=(i:Int)+1) om om,show c / 1073741824=0 by omega,show c%1073741824=c by omega]
      rfl
    have e2:eh b a (0,((i+1:Nat):Int),o++[c])=some (.stop (o++[c])):=by
      unfold eh
      dsimp only
      rw [show(if(b.length:Int)>(a.length:Int)then(b.length:Int)else(a.length:Int))=(m:Int)by split<;>omega,w64 (n:=(m:Int)+1) om om,if_neg so]
    by_cases t:c=0
    · subst t
      refine⟨o,o++[0],by rw [mK g,mG e2],mG ?_,u rfl rfl,so,om,.inr rfl⟩
      unfold dq
      dsimp only
      rw [if_neg so,if_neg so,if_neg sm]
    · have x:dq a b (c,(i:Int),o)=some (.next (0,((i+1:Nat):Int),o++[c])):=by
        unfold dq
        dsimp only
        rw [if_neg so,if_neg so,if_pos so]
        unfold dO eN eM
        rw [if_neg so,if_neg so,jd e,zb,app_d om,zb,quo_at e om,zb,w64 (n:=(i:Int)+1) om om,show c / 1073741824=0 by omega,show c%1073741824=c by omega]
        rfl
      refine⟨o++[c],o++[c],by rw [mK g,mG e2],?_,Top_snoc t,so,so,.inl rfl⟩
      rw [mK x]
      apply mG
      unfold dq
      dsimp only
      rw [if_neg so,if_neg so,if_neg sm]
  |d+1,i,hi,c,o,e,p,z,u=>by
    obtain⟨g,e2⟩:=add_step k l hm (i:=i) om j e p (o:=o) om
    obtain⟨-,a2,a3⟩:=dig_v k i
    obtain⟨-,H,I⟩:=dig_v l i
    generalize J:c+(a.getD i 0+b.getD i 0)=v at g e2
    obtain ⟨r, f, B, C, D, E, F, G⟩ := add_loop k l q s hm j d (i + 1) om (v / 1073741824) (o ++ [v % 1073741824]) om om so (fun y K => Top_snoc (by
      subst y
      have:1<=v:=by
        by_cases h:b.length<=a.length
        · have:=q.get k om
          rw [show a.length-1=i by omega]at this;omega
        · have:=s.get l om
          rw [show b.length-1=i by omega]at this;omega
      omega))
    exact⟨r,f,by rw [mK g,B],by rw [mK e2,C],D,E,F,G⟩
theorem Add_eq{a b:List Int}(c:a.length<=4000)(e:b.length<=4000):∃r,nat_Add a b=some r∧ly a b=some r∧r.1.length<=64:=by
  unfold nat_Add ly kR
  rw [nv_eq c,lf c,zb,zb,nv_eq e,lf e]
  cases n:vN a with
  |false=>exact⟨_,rfl,rfl,sm⟩
  |true=>
    cases o:vN b with
    |false=>exact⟨_,rfl,rfl,sm⟩
    |true=>
      obtain⟨a1,a2,a3⟩:=je.1 n
      obtain⟨t,j,k⟩:=je.1 o
      obtain⟨r,q,f,g,i,u,v,s⟩:=add_loop a2 j a3 k (m:=max a.length b.length) rfl om (max a.length b.length) 0 om 0 [] om om rfl (fun _ _ h=>(h rfl).elim)
      have l:((0:Nat):Int)=0:=rfl
      rw [l]at f g
      have p:dI q=cL r:=by
        rcases s with rfl|rfl
        · exact lim_at i om
        · rw [<-lim_at i om]
          unfold dI
          rw [trim_zero om]
      simp only [if_true,zb,DL,Ac,if_false,f,g,p]
      unfold cL
      by_cases h:r.length<=64
      · rw [if_neg so];exact⟨_,rfl,rfl,h⟩
      · rw [if_pos so];exact⟨_,rfl,rfl,sm⟩
def I64(a:Int):Prop:= -9223372036854775808<=a∧a<=9223372036854775807
theorem jO(a:Int):I64 (Bw .i64 a):=by
  unfold I64;rw [Co];omega
theorem iP{a:Int}(h:I64 a):∃r,cj a=some r∧dl a=some r∧r.length<=64:=by
  have c:=jO (0-a)
  unfold I64 at h c
  obtain⟨x,e,f,k⟩:=From_eq (n:=if(Bw .i64 (0-a))>a then(Bw .i64 (0-a))else a) (by split<;>omega)
  obtain⟨y,g,i,j⟩:=Mul_eq (a:=x.1) (b:=x.1) om om
  unfold cj dl
  exact⟨y.1,by rw [e,zb,g];rfl,by rw [f,zb,i];rfl,j⟩
theorem squared_eq(a:aP)(n d:Int):∃r,ea a n d=some r∧eI a n d=some r∧r.length<=64:=by
  unfold ea eI
  obtain⟨x,c,e,j⟩:=iP (jO ((Bw .i64 ((Bw .i64 (a.a0*d))*d))-(Bw .i64 ((Bw .i64 (a.a2*n))*n))))
  obtain⟨y,f,g,k⟩:=iP (jO ((Bw .i64 (a.a1*n))*d))
  obtain⟨z,i,z2,z3⟩:=Add_eq (a:=x) (b:=y) om om
  exact⟨z.1,by rw [c,zb,f,zb,i];rfl,by rw [e,zb,g,zb,z2];rfl,z3⟩
theorem sum_I64{l:List Int}(e:l.length<=4000):Ok (bV l) I64:=by
  unfold bV
  refine Cs (P:=I64) (Cx (fun s:Int×Int=>(0<=s.2∧s.2<=l.length)∧I64 s.1) (fun s=>((l.length:Int)-s.2).toNat) ?_ ⟨⟨sm,sm⟩,by unfold I64;simp⟩) (fun o c=>DD c)
  rintro⟨s1,s2⟩ ⟨⟨i0,i1⟩,i2⟩
  simp only at i0 i1 i2
  unfold fU
  refine Cy (fun b=>?_) (fun _=>DF i2)
  refine Cs (Cu om om) (fun a _=>?_)
  rw [w64 (n:=s2+1) om om]
  exact DA ⟨⟨za,za⟩,jO _⟩ za
theorem total_eq{l:List Int}(a:l.length<=4000):eY l=bV l:=by
  rfl
structure StN(x:au):Prop where
  num:I64 x.aQ.a0
  den:I64 x.aL.a0
  taps:x.bp.length<=4000
  shift:0<=x.bq∧x.bq<=1000
theorem gain_eq{x:au}(h:StN x)(n d:Int):∃r,hX x n d=some r∧kd x n d=some r.1∧r.1.aQ.length<=64∧r.1.aL.length<=64∧(r.2=false->r.1.aL=[]):=by
  unfold hX kd
  by_cases i:x.bu=0
  · rw [i]
    obtain⟨a,a1,a2,a3⟩:=iP h.num
    obtain⟨b,c,f,g⟩:=iP h.den
    rw [a1,a2,c,f]
    exact⟨_,rfl,rfl,a3,g,fun e=>by cases e⟩
  · have j:(x.bu==0)=false:=by simp [i]
    rw [j]
    by_cases h1:x.bu=1
    · obtain⟨a,a1,a2,a3⟩:=squared_eq x.aQ n d
      obtain⟨b,c,f,g⟩:=squared_eq x.aL n d
      rw [h1,a1,a2,c,f]
      exact⟨_,rfl,rfl,a3,g,fun e=>by simpa using e⟩
    · have k:(x.bu==1)=false:=by simp [h1]
      rw [k]
      obtain⟨s,s1,s2⟩:=sum_I64 h.taps
      obtain⟨a,a1,a2,a3⟩:=iP s2
      have l:=h.shift
      have e:sI .i64 1 x.bq=some (pI .i64 1 x.bq):=by unfold sI;rw [if_neg om]
      have hw:Bw .u64 x.bq=x.bq:=IntWalk.u64_in _ om
      obtain⟨b,c,f,g⟩:=iP (a:=pI .i64 1 x.bq) (jO _)
      rw [total_eq h.taps,s1,hw,e]
      simp only [Ac,if_false,zb,a1,a2,c,f]
      exact⟨_,rfl,rfl,a3,g,fun e=>by cases e⟩
theorem vF_eq{f:ar}(h1:f.aQ.length<=4000)(a:f.aL.length<=4000):dH f=some (vN f.aQ&&(vN f.aL&&decide (f.aL≠ [])))∧cZ f=some (vN f.aQ&&(vN f.aL&&decide (f.aL≠ []))):=by
  unfold dH cZ
  rw [nv_eq h1,nv_eq a,lf h1,lf a]
  cases vN f.aQ<;>cases vN f.aL<;>simp [List.length_pos_iff]
theorem Times_eq{a b:ar}(h1:a.aQ.length<=4000)(g:a.aL.length<=4000)(i:b.aQ.length<=4000)(j:b.aL.length<=4000):
    ∃r,lw a b=some r∧jn a b=some r∧(r.2=0->vN r.1.aQ=true∧vN r.1.aL=true∧r.1.aL≠ [])∧(r.2≠0->r.1=⟨[],[]⟩)∧(a.aL=[]∨b.aL=[]->r.2≠0):=by
  unfold lw jn
  rw [(vF_eq h1 g).1,(vF_eq h1 g).2,zb,zb]
  by_cases c:(vN a.aQ&&(vN a.aL&&decide (a.aL≠ [])))=true
  · rw [c,(vF_eq i j).1,(vF_eq i j).2]
    by_cases e:(vN b.aQ&&(vN b.aL&&decide (b.aL≠ [])))=true
    · rw [e]
      simp only [A5,decide_eq_true_eq]at c e
      obtain⟨x,o,p,k,q,z, -⟩:=mulV c.1 e.1
      obtain⟨y,s,t,l,u,B,v⟩:=mulV c.2.1 e.2.1
      have n:=v c.2.2 e.2.2
      unfold gY
      rw [lf h1,lf i,lf g,lf j,c.1,c.2.1,e.1,e.2.1]
      simp only [zb,DL,Ac,if_false,o,p,s,t,lim_at k (show x.length<=4000 by omega),lim_at l (show y.length<=4000 by omega)]
      unfold cL
      by_cases m:x.length<=64
      · rw [if_neg so]
        by_cases f:y.length<=64
        · rw [if_neg so]
          refine⟨(⟨x,y⟩,0),rfl,rfl,fun _=>⟨je.2 ⟨m,q,k⟩,je.2 ⟨f,u,l⟩,n⟩,fun h=>(h rfl).elim,fun h=>(h.elim c.2.2 e.2.2).elim⟩
        · rw [if_pos so]
          exact⟨(⟨[],[]⟩,8),rfl,rfl,fun h=>by simp at h,fun _=>rfl,fun _=>sm⟩
      · rw [if_pos so]
        by_cases f:y.length<=64
        · rw [if_neg so]
          exact⟨(⟨[],[]⟩,8),rfl,rfl,fun h=>by simp at h,fun _=>rfl,fun _=>sm⟩
        · rw [if_pos so]
          exact⟨(⟨[],[]⟩,8),rfl,rfl,fun h=>by simp at h,fun _=>rfl,fun _=>sm⟩
    · rw [Bool.eq_false_iff.2 e]
      exact⟨(⟨[],[]⟩,1),rfl,rfl,fun h=>by simp at h,fun _=>rfl,fun _=>sm⟩
  · rw [Bool.eq_false_iff.2 c]
    exact⟨(⟨[],[]⟩,1),rfl,rfl,fun h=>by simp at h,fun _=>rfl,fun _=>sm⟩
end Go.Dw.Es
set_option maxRecDepth 100000
set_option maxHeartbeats 4000000
namespace Go.Dw.Es
open Go.Dw Go.Proofs
theorem gain_step{r:aA}(u:r.aD.length<=1000)(m:∀s∈r.aD,StN s)(n d:Int){i:Nat}(hi:i<r.aD.length){a b:List Int}(p:a.length<=64)(q:b.length<=64):
    ∃(e:Int)(x y:List Int),x.length<=64∧y.length<=64∧
      (cf r n d ((i:Int),a,b)=some (.next (((i+1:Nat):Int),x,y))∨cf r n d ((i:Int),a,b)=some (.stop (.inr (⟨[],[]⟩,11))))∧
      ((e = 0 ∧ vN x = true ∧ vN y = true ∧ y ≠ [] ∧ cy r n d ((i : Int), a, b) = some (.next (((i + 1 : Nat) : Int), x, y)) ∧ cf r n d ((i : Int), a, b) = some (.next (((i + 1 : Nat) : Int), x, y))) ∨
       (e≠0∧x=[]∧y=[]∧cy r n d ((i:Int),a,b)=some (.stop (.inr (⟨[],[]⟩,e)))))∧(b=[]->x=[]∧y=[]):=by
  obtain⟨g,g1,g2,g3,g4,g5⟩:=gain_eq (m _ (Aa hi)) n d
  obtain⟨t,t1,t2,t3,t4,t5⟩:=Times_eq (a:=⟨a,b⟩) (b:=g.1) za za om om
  have hw:Bw .i64 ((i:Int)+1)=((i+1:Nat):Int):=by rw [w64 om om];rfl
  have k:∀y,cy r n d ((i:Int),a,b)=y↔(if(!g.2)=true then(some (.stop (.inr ((ar.mk [] []),(11:Int)))))else(if(t.2 != (0:Int))=true then(some (.stop (.inr ((ar.mk [] []),t.2))))else(some (.next (((i+1:Nat):Int),t.1.aQ,t.1.aL)))))=y:=fun y=>by
    unfold cy
    dsimp only
    rw [if_pos so,mH rfl hi,zb,g1,zb,t1,zb,hw]
  have j:∀y,cf r n d ((i:Int),a,b)=y↔(if((g.1.aL.length:Int)==(0:Int))=true then(some (.stop (.inr ((ar.mk [] []),(11:Int)))))else(some (.next (((i+1:Nat):Int),t.1.aQ,t.1.aL))))=y:=fun y=>by
    unfold cf
    dsimp only
    rw [if_pos so,mH rfl hi,zb,g2,zb,t2,zb,hw]
  by_cases c:t.2=0
  · obtain⟨v1,v2,v3⟩:=t3 c
    by_cases f:g.1.aL=[]
    · exact(t5 (.inr f) c).elim
    · have l:g.2=true:=by cases e:g.2 with|true=>rfl|false=>exact(f (g5 e)).elim
      refine⟨0,t.1.aQ,t.1.aL,(je.1 v1).1,(je.1 v2).1,.inl ((j _).2 ?_),.inl ⟨rfl,v1,v2,v3,(k _).2 ?_,(j _).2 ?_⟩,fun h=>(t5 (.inl h) c).elim⟩
      · rw [if_neg (by simpa using f)]
      · rw [l,c];rfl
      · rw [if_neg (by simpa using f)]
  · have o:=t4 c
    refine⟨if g.2=false then 11 else t.2,[],[],sm,sm,?_,.inr ⟨?_,rfl,rfl,(k _).2 ?_⟩,fun _=>⟨rfl,rfl⟩⟩
    · by_cases f:g.1.aL=[]
      · exact .inr ((j _).2 (by rw [if_pos (by simp [f])]))
      · exact .inl ((j _).2 (by rw [if_neg (by simpa using f),o]))
    · split
      · decide
      · exact c
    · cases l:g.2 with
      |false=>rfl
      |true=>rw [if_neg sm,if_pos (by simpa using c)];rfl
theorem gain_dead{r:aA}(c:r.aD.length<=1000)(f:∀s∈r.aD,StN s)(n d:Int):∀k i:Nat,i+k=r.aD.length->
    ∃o,mF (cf r n d) ((i:Int),[],[])=some o∧(o= .inl ([],[])∨∃q,o= .inr q∧q.2≠0)
  |0,i,hi=>by
    refine⟨_,mG ?_,.inl rfl⟩
    unfold cf
    dsimp only
    rw [if_neg so]
  |k+1,i,hi=>by
    obtain⟨e,x,y, -, -,h1, -,g⟩:=gain_step c f n d (i:=i) om (a:=[]) (b:=[]) sm sm
    obtain⟨rfl,rfl⟩:=g rfl
    rcases h1 with h1|h1
    · obtain⟨o,j,l⟩:=gain_dead c f n d k (i+1) om
      exact⟨o,by rw [mK h1,j],l⟩
    · exact⟨_,mG h1,.inr ⟨_,rfl,by decide⟩⟩
def GR(o a:(List Int×List Int)⊕(ar×Int)):Prop:=match o with
  | .inl p=>a= .inl p∧vN p.1=true∧vN p.2=true∧p.2≠ []
  | .inr q=>q.2≠0∧(a= .inl ([],[])∨∃b,a= .inr b∧b.2≠0)
theorem gain_loop{r:aA}(m:r.aD.length<=1000)(p:∀s∈r.aD,StN s)(n d:Int):∀k i:Nat,i+k=r.aD.length->∀a b:List Int,vN a=true->vN b=true->b≠ []->
    ∃o g,mF (cy r n d) ((i:Int),a,b)=some o∧mF (cf r n d) ((i:Int),a,b)=some g∧GR o g
  |0,i,hi,a,b,j,l,c=>by
    refine⟨.inl (a,b),.inl (a,b),mG ?_,mG ?_,rfl,j,l,c⟩
    · unfold cy;dsimp only;rw [if_neg so]
    · unfold cf;dsimp only;rw [if_neg so]
  |k+1,i,hi,a,b,j,l,c=>by
    obtain⟨e,x,y, -, -,h1,u, -⟩:=gain_step m p n d (i:=i) om (a:=a) (b:=b) (je.1 j).1 (je.1 l).1
    rcases u with⟨-,v1,v2,v3,f,e2⟩|⟨he,rfl,rfl,f⟩
    · obtain⟨o,g,q,t,v⟩:=gain_loop m p n d k (i+1) om x y v1 v2 v3
      exact⟨o,g,by rw [mK f,q],by rw [mK e2,t],v⟩
    · refine⟨.inr (⟨[],[]⟩,e),?_⟩
      rcases h1 with h1|h1
      · obtain⟨o,q,t⟩:=gain_dead m p n d k (i+1) om
        exact⟨o,mG f,by rw [mK h1,q],he,t⟩
      · exact⟨_,mG f,mG h1,he,.inr ⟨_,rfl,by decide⟩⟩
def sqM(m:Int):Int:=mT .i64 (Bw .i64 (m*m)) 30
def nM(m:Int):Int:=if sqM m>=2147483648 then mT .i64 (sqM m) 1 else sqM m
def nD(m d:Int):Int:=if sqM m>=2147483648 then Bw .i64 (Bw .i64 (d*2)+1)else Bw .i64 (d*2)
theorem shr1{n:Int}(a:0<=n):mT .i64 n 1=n / 2:=by
  show n.fdiv (2 ^ (min (1:Int).toNat 64))=n / 2
  rw [CQ _ (by decide)]
  rfl
theorem sqM_le(m:Int):sqM m<=9223372036854775807:=by
  have:=jO (m*m)
  unfold I64 at this
  unfold sqM
  show(Bw .i64 (m*m)).fdiv (2 ^ (min (30:Int).toNat 64))<=_
  rw [CQ _ (by decide)]
  show Bw .i64 (m*m) / 1073741824<=_
  omega
theorem quo2{m:Int}(h:sqM m>=2147483648):nU .i64 (sqM m) 2=some (mT .i64 (sqM m) 1):=by
  have:=sqM_le m
  unfold nU;rw [if_neg (by decide),C6 om,w64 om om,shr1 om]
theorem kstep(c:Int)(f:Int->Int->Int->Option Int)(m d:Int):
    (if(decide (sqM m>=(2147483648:Int)))=true then((nU .i64 (sqM m) (2:Int)).bind fun x=>f c x (Bw .i64 ((Bw .i64 (d*(2:Int)))+(1:Int))))else(f c (sqM m) (Bw .i64 (d*(2:Int)))))=f c (nM m) (nD m d):=by
  unfold nM nD
  by_cases h:sqM m>=2147483648
  · rw [if_pos (by simpa using h),quo2 h,zb,if_pos h,if_pos h]
  · rw [if_neg (by simpa using h),if_neg h,if_neg h]
theorem lstep{m d:Int}{i:Nat}(hi:i<8):bY (m,d,(i:Int))=some (.next (nM m,nD m d,((i+1:Nat):Int))):=by
  unfold bY nM nD
  dsimp only
  rw [if_pos so,w64 (n:=(i:Int)+1) om om]
  show(if decide (sqM m>=2147483648)=true then some (mI.next (mT .i64 (sqM m) 1,_,_))else some (.next (sqM m,_,_)))=_
  by_cases h:sqM m>=2147483648
  · rw [if_pos (by simpa using h),if_pos h,if_pos h];rfl
  · rw [if_neg (by simpa using h),if_neg h,if_neg h];rfl
theorem lj(c m:Int):ek c m=cq c m:=by
  have h:∀(i:Nat),i<8->∀m d:Int,mF bY (m,d,(i:Int))=mF bY (nM m,nD m d,((i+1:Nat):Int)):=fun i hi m d=>mK (lstep hi)
  unfold ek
  have b:((0:Nat):Int)=0:=rfl
  have a:=h 0 (by decide) m 0
  rw [b]at a
  rw [a,h 1 (by decide),h 2 (by decide),h 3 (by decide),h 4 (by decide),h 5 (by decide),h 6 (by decide),h 7 (by decide),mG (o:=nD _ _) (by unfold bY;rfl),zb]
  have e:cq c m=bP c (nM m) (nD m 0):=kstep c bP m 0
  have f:∀m d,bP c m d=bO c (nM m) (nD m d):=fun m d=>kstep c bO m d
  have k3:∀m d,bO c m d=bN c (nM m) (nD m d):=fun m d=>kstep c bN m d
  have g:∀m d,bN c m d=bM c (nM m) (nD m d):=fun m d=>kstep c bM m d
  have j:∀m d,bM c m d=bL c (nM m) (nD m d):=fun m d=>kstep c bL m d
  have k:∀m d,bL c m d=bK c (nM m) (nD m d):=fun m d=>kstep c bK m d
  have l:∀m d,bK c m d=bJ c (nM m) (nD m d):=fun m d=>kstep c bJ m d
  have n:∀m d,bJ c m d=bX c (nM m) (nD m d):=fun m d=>kstep c bX m d
  rw [e,f,k3,g,j,k,l,n]
  rfl
end Go.Dw.Es
set_option maxRecDepth 100000
set_option maxHeartbeats 4000000
namespace Go.Dw.Es
open Go.Dw Go.Proofs
theorem shrU{n:Int}(a:0<=n)(k:Nat)(hk:k<=63):mT .u64 n (k:Nat)=n / 2 ^ k:=by
  show n.fdiv (2 ^ (min ((k:Nat):Int).toNat 64))=n / 2 ^ k
  rw [BV,Nat.min_eq_left om,CQ _ (CS (Int.pow_pos (by decide)))]
theorem wU8{n:Int}(h:0<=n∧n<256):Bw .u8 n=n:=IntWalk.u8_in _ om
theorem tab8:(AI 256).all (fun c=>decide (c=0)||match b7 (c:Int) 0 with|some L=>decide (1<=L)&&(decide (L<=8)&&(decide ((2:Int) ^ (L-1).toNat<=c)&&decide ((c:Int)<2 ^ L.toNat)))|none=>false)=true:=by kernel_rfl
def Len(n L:Int):Prop:=∃l:Nat,L=l∧1<=l∧l<=64∧(2:Int) ^ (l-1)<=n∧n<2 ^ l
theorem k8_lo{c:Nat}(f:c<256)(h1:1<=c){m:Int}(hm:0<=m∧m<=64):∃l:Nat,b7 (c:Int) m=some (m+l)∧1<=l∧l<=8∧(2:Int) ^ (l-1)<=c∧(c:Int)<2 ^ l:=by
  have h:=List.all_eq_true.1 tab8 c (List.mem_range.2 f)
  simp only [DM,decide_eq_true_eq]at h
  rcases h with h|h
  · omega
  have key:∀m:Int,0<=m∧m<=64->∃x:Int,0<=x∧x<=255∧b7 (c:Int) 0=some x∧b7 (c:Int) m=some (m+x):=fun m hm=>by
    have gen:∀s:List UInt8,s.length=256->∃x:Int,0<=x∧x<=255∧((pg s (c:Int)).bind fun y=>some (Bw .i64 (0+Bw .i64 y)))=some x∧((pg s (c:Int)).bind fun y=>some (Bw .i64 (m+Bw .i64 y)))=some (m+x):=fun s g=>by
      obtain⟨x,a,b, -,rfl⟩:=Ok.byte (s:=s) (n:=(c:Int)) om om
      have:=b.toNat_lt
      refine⟨(b.toNat:Int),om,om,?_,?_⟩
      · rw [a,zb,w64 (n:=(b.toNat:Int)) om om,w64 om om,Ca]
      · rw [a,zb,w64 (n:=(b.toNat:Int)) om om,w64 om om]
    unfold b7
    rw [if_neg so,if_neg so,wU8 om]
    exact gen _ (by decide)
  obtain⟨x,i,j,e,e2⟩:=key m hm
  rw [e]at h
  simp only [A5,decide_eq_true_eq]at h
  obtain⟨a1,a2,a3,a4⟩:=h
  obtain⟨l,rfl⟩:∃l:Nat,x=l:=⟨x.toNat,om⟩
  refine⟨l,e2,om,om,?_,by simpa using a4⟩
  rw [show((l:Int)-1).toNat=l-1 by omega]at a3
  exact a3
theorem k8_at{n:Int}(h1:1<=n)(h:n<65536){m:Int}(hm:0<=m∧m<=48):∃l:Nat,b7 n m=some (m+l)∧1<=l∧l<=16∧(2:Int) ^ (l-1)<=n∧n<2 ^ l:=by
  by_cases f:n<256
  · obtain⟨c,rfl⟩:∃c:Nat,n=c:=⟨n.toNat,om⟩
    obtain⟨l,e,a1,a2,a3,a4⟩:=k8_lo (c:=c) om om (m:=m) om
    exact⟨l,e,a1,om,a3,a4⟩
  · obtain⟨c,a⟩:∃c:Nat,n / 256=c:=⟨(n / 256).toNat,om⟩
    obtain⟨l,e,a1,a2,a3,a4⟩:=k8_lo (c:=c) om om (m:=m+8) om
    refine⟨l+8,?_,om,om,?_,?_⟩
    · have:b7 n m=b7 (c:Int) (m+8):=by
        unfold b7
        have b:mT .u64 n 8=(c:Int):=by rw [<-a];exact shrU om 8 om
        rw [if_pos so,if_neg so,b,w64 (n:=m+8) om om]
      rw [this,e];congr 1;omega
    · rw [show l+8-1=(l-1)+8 by omega,C4];omega
    · rw [C4];omega
theorem k10_at{n:Int}(h1:1<=n)(h:n<4294967296){m:Int}(hm:0<=m∧m<=32):∃l:Nat,eQ n m=some (m+l)∧1<=l∧l<=32∧(2:Int) ^ (l-1)<=n∧n<2 ^ l:=by
  unfold eQ
  by_cases a:n<65536
  · rw [if_neg so]
    obtain⟨l,e,a1,a2,a3,a4⟩:=k8_at h1 a (m:=m) om
    exact⟨l,e,a1,om,a3,a4⟩
  · have b:mT .u64 n 16=n / 65536:=shrU om 16 om
    rw [if_pos so,b,w64 (n:=m+16) om om]
    obtain⟨l,e,a1,a2,a3,a4⟩:=k8_at (n:=n / 65536) om om (m:=m+16) om
    refine⟨l+16,by rw [e];congr 1;omega,om,om,?_,?_⟩
    · rw [show l+16-1=(l-1)+16 by omega,C4];omega
    · rw [C4];omega
theorem bits_at{n:Int}(h1:1<=n)(h:n<18446744073709551616):Ok (jE n) (Len n):=by
  unfold jE lW
  rw [Cp]
  by_cases a:n<4294967296
  · rw [if_neg so]
    obtain⟨l,e,a1,a2,a3,a4⟩:=k10_at h1 a (m:=0) om
    exact⟨_,e,l,om,a1,om,a3,a4⟩
  · have b:mT .u64 n 32=n / 4294967296:=shrU om 32 om
    rw [if_pos so,b]
    obtain⟨l,e,a1,a2,a3,a4⟩:=k10_at (n:=n / 4294967296) om om (m:=32) om
    refine⟨_,e,l+32,om,om,om,?_,?_⟩
    · rw [show l+32-1=(l-1)+32 by omega,C4];omega
    · rw [C4];omega
theorem or_nat(k m:Nat)(h:2 ^ (k+1)*m+2 ^ k<4611686018427387904):orI .i64 ((2 ^ (k+1)*m:Nat):Int) ((2 ^ k:Nat):Int)=((2 ^ (k+1)*m+2 ^ k:Nat):Int):=by
  have c:=Nat.two_pow_add_eq_or_of_lt (i:=k+1) (b:=2 ^ k) (Nat.pow_lt_pow_right (by decide) (Nat.lt_succ_self k)) m
  generalize 2 ^ (k+1)*m=A at*
  generalize 2 ^ k=B at*
  unfold orI
  show Bw .i64 (((BitVec.ofInt 64 _ ||| BitVec.ofInt 64 _).toNat:Nat):Int)=_
  rw [BitVec.ofInt_natCast,BitVec.ofInt_natCast,BitVec.toNat_or,BitVec.toNat_ofNat,BitVec.toNat_ofNat,Cm (a:=A) om,Cm (a:=B) om,show(A ||| B)=A+B by omega]
  exact w64 om om
theorem or_add(k m:Nat)(h:(2:Int) ^ (k+1)*m+2 ^ k<4611686018427387904):orI .i64 ((2:Int) ^ (k+1)*m) (2 ^ k)=2 ^ (k+1)*m+2 ^ k:=by
  have a:((2:Int) ^ (k+1)*m)=((2 ^ (k+1)*m:Nat):Int):=by rw [C0,C1];rfl
  have e2:((2:Int) ^ k)=((2 ^ k:Nat):Int):=by rw [C1];rfl
  rw [a,e2]at h⊢
  rw [or_nat k m om]
  exact CZ _ _
theorem sq_lt{x n:Int}(b:0<x)(a:0<=n):x<=n.tdiv x↔x*x<=n:=by
  rw [C6 a,CR b]
theorem bit_half:∀k:Nat,k<33->mT .i64 ((2:Int) ^ k / 2) 1=if k=0 then 0 else(2:Int) ^ (k-1) / 2:=by decide+kernel
theorem bit_in:∀j:Nat,j<32->(1:Int)<=(2:Int) ^ j∧(2:Int) ^ j<=2147483648:=by decide+kernel
def Rt(n r:Int):Prop:=0<=r∧r*r<=n∧n<(r+1)*(r+1)
theorem sq_uniq{x y n:Int}(c:Rt n x)(e:Rt n y):x=y:=by
  obtain⟨c,h1,f⟩:=c
  obtain⟨e,g,i⟩:=e
  have k:∀a b:Int,0<=a->0<=b->a*a<=n->n<(b+1)*(b+1)->a<=b:=fun a b j l g1 g2=>by
    apply DO
    intro h
    have:(b+1)*(b+1)<=a*a:=CW om om om om
    omega
  have:=k x y c e h1 i
  have:=k y x e c g f
  omega
theorem small_rt{r n:Int}(h1:r*r<=n)(b:n<=70368744177664):r<=8388608:=by
  apply DO
  intro a
  have:8388609*8388609<=r*r:=CW om om om om
  omega
theorem rfloor_ok(n:Int)(m:0<=n)(h1:n<=70368744177664):Ok (gi n) (Rt n):=by
  unfold gi
  rw [Cp]
  refine Cx (fun s:Int×Int=>0<=s.1∧s.1*s.1<=n∧∃k:Nat,k<=32∧s.2=(2:Int) ^ k / 2∧n<(s.1+(2:Int) ^ k)*(s.1+(2:Int) ^ k)) (fun s=>s.2.toNat) ?_ ⟨sm,by simpa using m,32,om,by decide,so⟩
  rintro⟨r,b⟩ ⟨r0,f,k,t,rfl,e⟩
  simp only at r0 f e
  have u:=small_rt f h1
  unfold kZ
  dsimp only
  rcases By k with rfl|hk
  · refine Cy (fun h=>by simp at h) (fun _=>DF ⟨r0,f,by simpa using e⟩)
  have c:=bit_half k om
  rw [if_neg om]at c
  obtain⟨j,rfl⟩:∃j,k=j+1:=⟨k-1,om⟩
  simp only [Cl]at c
  have o:(2:Int) ^ (j+1) / 2=(2:Int) ^ j:=by rw [C5];omega
  obtain⟨l,i⟩:=bit_in j om
  rw [o]at c⊢
  rw [c]
  have q:(2:Int) ^ j / 2<(2:Int) ^ j:=by omega
  have g:n<(r+2*(2:Int) ^ j)*(r+2*(2:Int) ^ j):=by rw [C5]at e;rw [CV 2];exact e
  generalize a:(2:Int) ^ j=B at*
  refine Cy (fun _=>?_) (fun h=>om)
  rw [w64 (n:=r+B) om om]
  refine Cy (fun hle=>?_) (fun h=>om)
  have p:0<=(r+B)*(r+B)∧(r+B)*(r+B)<=3037000499*3037000499:=⟨CX om om,CW hle hle om om⟩
  rw [w64 (n:=(r+B)*(r+B)) om om]
  refine Cy (fun hm=>?_) (fun hm=>?_)
  · refine DA ⟨za,hm,j,om,by simp only;rw [a],?_⟩ za
    simp only
    rw [a,show r+B+B=r+2*B by omega];exact g
  · refine DA ⟨r0,f,j,om,by simp only;rw [a],?_⟩ za
    simp only
    rw [a];omega
theorem cfloor_loop(n:Int)(z:0<n)(h1:n<=70368744177664)(s:Int×Int)(y:0<=s.1∧s.1*s.1<=n∧∃k m:Nat,k<=32∧s.2=(2:Int) ^ k / 2∧s.1=(2:Int) ^ k*m∧n<(s.1+(2:Int) ^ k)*(s.1+(2:Int) ^ k)):Ok (mF (f8 n) s) (Rt n):=by
  refine Cx (fun s:Int×Int=>0<=s.1∧s.1*s.1<=n∧∃k m:Nat,k<=32∧s.2=(2:Int) ^ k / 2∧s.1=(2:Int) ^ k*m∧n<(s.1+(2:Int) ^ k)*(s.1+(2:Int) ^ k)) (fun s=>s.2.toNat) ?_ y
  rintro⟨r,b⟩ ⟨r0,g,k,m,B,rfl,e,f⟩
  simp only at r0 g e f
  have C:=small_rt g h1
  unfold f8
  dsimp only
  rcases By k with rfl|hk
  · refine Cy (fun h=>by simp at h) (fun _=>DF ⟨r0,g,by simpa using f⟩)
  have c:=bit_half k om
  rw [if_neg om]at c
  obtain⟨j,rfl⟩:∃j,k=j+1:=⟨k-1,om⟩
  simp only [Cl]at c
  have u:(2:Int) ^ (j+1) / 2=(2:Int) ^ j:=by rw [C5];omega
  obtain⟨p,o⟩:=bit_in j om
  have i:orI .i64 r (2 ^ j)=r+2 ^ j:=by rw [e];exact or_add j m (by rw [<-e];omega)
  have d1:r=(2:Int) ^ j*((2*m:Nat):Int):=by
    rw [e,C5,C0,Int.mul_assoc];rfl
  have d2:r+2 ^ j=(2:Int) ^ j*((2*m+1:Nat):Int):=by
    rw [CZ,Int.mul_add, <-d1];simp
  rw [u]at c⊢
  rw [c,i]
  have l:n<(r+2*(2:Int) ^ j)*(r+2*(2:Int) ^ j):=by rw [C5]at f;rw [CV 2];exact f
  have v:0<=n.tdiv (r+2 ^ j):=C8 om om
  have x:n.tdiv (r+2 ^ j)<=n:=C7 _ om
  refine Cy (fun _=>?_) (fun h=>om)
  refine Cs (DC om) (fun q t=>?_)
  rw [w64 om om]at t
  subst t
  refine Cy (fun hle=>?_) (fun a=>?_)
  · rw [sq_lt om om]at hle
    refine DA ⟨za,hle,j,2*m+1,om,rfl,d2,?_⟩ za
    simp only
    rw [show r+2 ^ j+2 ^ j=r+2*2 ^ j by omega];exact l
  · rw [sq_lt om om]at a
    exact DA ⟨r0,g,j,2*m,om,rfl,d1,Int.not_le.1 a⟩ za
theorem start_at:∀q:Nat,q<32->pI .i64 1 (q:Int)=(2:Int) ^ (q+1) / 2:=by decide+kernel
theorem cfloor_ok(n:Int)(g:0<=n)(h1:n<=70368744177664):Ok (dX n) (Rt n):=by
  unfold dX
  refine Cy (fun h=>DD ⟨om,om,om⟩) (fun h=>?_)
  have hw:Bw .u64 n=n:=IntWalk.u64_in _ om
  rw [hw]
  refine Cs (bits_at om om) (fun L⟨l,a,j,k,m,o⟩=>?_)
  subst a
  have i:l<=47:=by
    apply DO
    intro b
    have:(2:Int) ^ 47<=2 ^ (l-1):=by
      have:=Cn (show 0<2 by decide) (show 47<=l-1 by omega)
      exact_mod_cast this
    have e:(2:Int) ^ 47=140737488355328:=by decide
    omega
  rw [w64 (n:=(l:Int)-1) om om]
  have c:nU .i64 ((l:Int)-1) 2=some (((l-1) / 2:Nat):Int):=by
    unfold nU
    rw [if_neg (by decide),C6 om,w64 om om]
    congr 1;omega
  rw [c,zb]
  have f:sI .i64 1 (((l-1) / 2:Nat):Int)=some ((2:Int) ^ ((l-1) / 2+1) / 2):=by
    unfold sI
    rw [if_neg om,start_at _ om]
  rw [f,zb,Cp]
  refine cfloor_loop n om h1 _ ⟨sm,za,(l-1) / 2+1,0,om,rfl,sm,?_⟩
  simp only [Ca]
  rw [<-C4]
  have:(2:Int) ^ l<=2 ^ ((l-1) / 2+1+((l-1) / 2+1)):=by
    have:=Cn (show 0<2 by decide) (show l<=(l-1) / 2+1+((l-1) / 2+1)by omega)
    exact_mod_cast this
  omega
theorem Floor_eq{n:Int}(e:0<=n)(h1:n<=70368744177664):∃r,dX n=some r∧gi n=some r∧Rt n r:=by
  obtain⟨a,a1,a2⟩:=cfloor_ok n e h1
  obtain⟨b,c,f⟩:=rfloor_ok n e h1
  rw [sq_uniq f a2]at c
  exact⟨a,a1,c,a2⟩
theorem Ceil_eq{n:Int}(b:0<=n)(h1:n<=70368744177664):∃r,hJ n=some r∧i9 n=some r∧0<=r∧r<=8388609∧n<=r*r∧(∀f,Rt n f->f<=r):=by
  obtain⟨x,g,i,a⟩:=Floor_eq b h1
  have k:=small_rt a.2.1 h1
  have j:=a.2.1
  have c:0<=x*x:=CX a.1 a.1
  unfold hJ i9
  have e:=a.1
  rw [g,i,zb,w64 (n:=x*x) om om,w64 (n:=x+1) om om]
  by_cases h:x*x<n
  · rw [if_pos (by simpa using h)]
    exact⟨_,rfl,rfl,om,om,CS a.2.2,fun f hf=>by rw [sq_uniq hf a];omega⟩
  · rw [if_neg (by simpa using h)]
    exact⟨_,rfl,rfl,om,om,om,fun f hf=>by rw [sq_uniq hf a];omega⟩
end Go.Dw.Es
set_option maxRecDepth 100000
set_option maxHeartbeats 4000000
namespace Go.Dw.Es
open Go.Dw Go.Proofs
abbrev PosP(p:ac):Prop:=(-1048576<=p.fX∧p.fX<=1048576)∧(-1048576<=p.fY∧p.fY<=1048576)∧(-16384<=p.fZ∧p.fZ<=1048576)
abbrev BoxP(b:aq):Prop:=PosP b.aG∧PosP b.aB∧b.aG.fX<=b.aB.fX∧b.aG.fY<=b.aB.fY∧b.aG.fZ<=b.aB.fZ
theorem pos_at(p:ac):cu p=some (decide (PosP p)):=by
  refine Ct ?_
  unfold cu cb
  rw [zb]
  dsimp only
  exact Cy (fun _=>DD (decide_eq_false om).symm) (fun _=>Cy (fun _=>DD (decide_eq_false om).symm) (fun _=>Cy (fun _=>DD (decide_eq_false om).symm) (fun _=>Cy (fun _=>DD (decide_eq_false om).symm) (fun _=>Cy (fun _=>DD (decide_eq_false om).symm) (fun _=>Cy (fun _=>DD (decide_eq_false om).symm) (fun _=>DD (decide_eq_true om).symm))))))
theorem mC(p:ac):ej p=some (decide (PosP p)):=by
  refine Ct ?_
  unfold ej
  refine Cy (fun _=>Cy (fun _=>Cy (fun _=>Cy (fun _=>Cy (fun _=>DD ?_) (fun _=>DD (decide_eq_false om).symm)) (fun _=>DD (decide_eq_false om).symm)) (fun _=>DD (decide_eq_false om).symm)) (fun _=>DD (decide_eq_false om).symm)) (fun _=>DD (decide_eq_false om).symm)
  exact decide_eq_decide.2 om
theorem box_at(b:aq):bU b=some (decide (BoxP b)):=by
  refine Ct ?_
  unfold bU cb
  rw [pos_at,zb,pos_at]
  refine Cw (fun h=>DD (decide_eq_false (fun e=>h e.1)).symm) (fun h1=>?_)
  rw [zb]
  refine Cw (fun h=>DD (decide_eq_false (fun e=>h e.2.1)).symm) (fun a=>?_)
  rw [zb,zb]
  dsimp only
  exact Cy (fun _=>DD (decide_eq_false (fun e=>by have:=e.2.2;omega)).symm) (fun _=>Cy (fun _=>DD (decide_eq_false (fun e=>by have:=e.2.2;omega)).symm) (fun _=>Cy (fun _=>DD (decide_eq_false (fun e=>by have:=e.2.2;omega)).symm) (fun _=>DD (decide_eq_true ⟨h1,a,om,om,om⟩).symm)))
theorem mu(b:aq):cP b=some (decide (BoxP b)):=by
  refine Ct ?_
  unfold cP
  rw [mC,zb,mC]
  refine Cy (fun h1=>?_) (fun h=>DD (decide_eq_false (fun e=>h e.1)).symm)
  rw [zb]
  refine Cy (fun a=>?_) (fun h=>DD (decide_eq_false (fun e=>h e.2.1)).symm)
  refine Cy (fun _=>Cy (fun _=>DD ?_) (fun _=>DD (decide_eq_false (fun e=>by have:=e.2.2;omega)).symm)) (fun _=>DD (decide_eq_false (fun e=>by have:=e.2.2;omega)).symm)
  exact decide_eq_decide.2 ⟨fun h=>⟨h1,a,om,om,h⟩,fun h=>h.2.2.2.2⟩
theorem sq_in{x:Int}(h: -2097152<=x∧x<=2097152):0<=x*x∧x*x<=4398046511104:=by
  constructor
  · rcases CU 0 x with a|a
    · exact CX a a
    · exact CY a a
  · rcases CU 0 x with a|a
    · have:x*x<=2097152*2097152:=CW om om a om
      omega
    · have: -x* -x<=2097152*2097152:=CW om om om om
      rw [C2]at this;omega
def ne(x lo hi:Int):Int:=if x<lo then lo-x else if hi<x then x-hi else 0
def fa(x lo hi:Int):Int:=if x-lo>hi-x then x-lo else hi-x
abbrev InR(x:Int):Prop:= -1048576<=x∧x<=1048576
theorem near1{x lo hi:Int}(e:InR x)(c:InR lo)(b:InR hi)(a:lo<=hi):du x lo hi=some (ne x lo hi)∧hC lo hi x=some (ne x lo hi)∧ -2097152<=ne x lo hi∧ne x lo hi<=2097152:=by
  unfold du hC ne
  rw [w64 (n:=x-hi) om om,w64 (n:=lo-x) om om]
  refine⟨?_,?_,?_,?_⟩
  · congr 1;split<;>split<;>(try split)<;>omega
  · congr 1;split<;>(try split)<;>(try split)<;>omega
  · split<;>(try split)<;>omega
  · split<;>(try split)<;>omega
theorem far1{x lo hi:Int}(c:InR x)(b:InR lo)(a:InR hi):cS x lo hi=some (fa x lo hi)∧iN lo hi x=some (fa x lo hi)∧ -2097152<=fa x lo hi∧fa x lo hi<=2097152:=by
  unfold cS iN fa
  rw [w64 (n:=x-lo) om om,w64 (n:=hi-x) om om]
  refine⟨rfl,?_,?_,?_⟩
  · congr 1;split<;>split<;>omega
  · split<;>omega
  · split<;>omega
theorem near_eq(b:aq)(p:ac):∃v,fB b p=some v∧gZ b p=some v∧0<=v∧v<=13194139533312:=by
  unfold fB ew gZ
  rw [Cp,box_at,mu,zb,zb,pos_at,mC]
  by_cases a:BoxP b
  · rw [if_neg (by simp [a]),if_neg (by simp [a]),zb,zb]
    by_cases c:PosP p
    · rw [if_neg (by simp [c]),if_neg (by simp [c])]
      obtain⟨⟨t,u,y⟩,⟨g1,g2,g3⟩,s1,s2,g⟩:=a
      obtain⟨z,B,C⟩:=c
      obtain⟨i,j,k,l⟩:=near1 (x:=p.fX) (lo:=b.aG.fX) (hi:=b.aB.fX) om om om s1
      obtain⟨m,o,q,r⟩:=near1 (x:=p.fY) (lo:=b.aG.fY) (hi:=b.aB.fY) om om om s2
      obtain⟨s,z2,z3,z4⟩:=near1 (x:=p.fZ) (lo:=b.aG.fZ) (hi:=b.aB.fZ) om om om g
      have D:=sq_in ⟨k,l⟩;have E:=sq_in ⟨q,r⟩;have sz:=sq_in ⟨z3,z4⟩
      unfold cb dm
      simp only [zb,i,j,m,o,s,z2]
      generalize ne p.fX b.aG.fX b.aB.fX=nx at*
      generalize ne p.fY b.aG.fY b.aB.fY=e at*
      generalize ne p.fZ b.aG.fZ b.aB.fZ=f at*
      rw [w64 (n:=nx*nx) om om,w64 (n:=e*e) om om,w64 (n:=f*f) om om,Ca,w64 (n:=nx*nx) om om,w64 (n:=nx*nx+e*e) om om,w64 om om]
      exact⟨_,rfl,rfl,om,om⟩
    · rw [if_pos (by simp [c]),if_pos (by simp [c])];exact⟨0,rfl,rfl,om,om⟩
  · rw [if_pos (by simp [a]),if_pos (by simp [a])];exact⟨0,rfl,rfl,om,om⟩
theorem far_eq(b:aq)(p:ac):∃v,gn b p=some v∧iM b p=some v∧0<=v∧v<=13194139533312:=by
  unfold gn dY iM
  rw [Cp,box_at,mu,zb,zb,pos_at,mC]
  by_cases a:BoxP b
  · rw [if_neg (by simp [a]),if_neg (by simp [a]),zb,zb]
    by_cases c:PosP p
    · rw [if_neg (by simp [c]),if_neg (by simp [c])]
      obtain⟨⟨s,t,u⟩,⟨g1,g2,g3⟩,s1,s2,C⟩:=a
      obtain⟨y,z,B⟩:=c
      obtain⟨g,i,j,k⟩:=far1 (x:=p.fX) (lo:=b.aG.fX) (hi:=b.aB.fX) om om om
      obtain⟨l,m,o,q⟩:=far1 (x:=p.fY) (lo:=b.aG.fY) (hi:=b.aB.fY) om om om
      obtain⟨r,z2,z3,z4⟩:=far1 (x:=p.fZ) (lo:=b.aG.fZ) (hi:=b.aB.fZ) om om om
      have D:=sq_in ⟨j,k⟩;have E:=sq_in ⟨o,q⟩;have sz:=sq_in ⟨z3,z4⟩
      unfold cb dm
      simp only [zb,g,i,l,m,r,z2]
      generalize fa p.fX b.aG.fX b.aB.fX=nx at*
      generalize fa p.fY b.aG.fY b.aB.fY=e at*
      generalize fa p.fZ b.aG.fZ b.aB.fZ=f at*
      rw [w64 (n:=nx*nx) om om,w64 (n:=e*e) om om,w64 (n:=f*f) om om,Ca,w64 (n:=nx*nx) om om,w64 (n:=nx*nx+e*e) om om,w64 om om]
      exact⟨_,rfl,rfl,om,om⟩
    · rw [if_pos (by simp [c]),if_pos (by simp [c])];exact⟨0,rfl,rfl,om,om⟩
  · rw [if_pos (by simp [a]),if_pos (by simp [a])];exact⟨0,rfl,rfl,om,om⟩
def Lo(t:ap)(k:Nat):Int:=t.aG.getD k 0
def Hi(t:ap)(k:Nat):Int:=t.aB.getD k 0
def lM(t:ap)(k:Nat):Prop:=0<=Lo t k∧Hi t k<=1099511627776∧Lo t k<=Hi t k∧(0<k->Lo t (k-1)<=Lo t k∧Hi t (k-1)<=Hi t k)
structure me(t:ap):Prop where
  step:1<=t.aY∧t.aY<=1048576
  same:t.aG.length=t.aB.length
  len:2<=t.aG.length∧t.aG.length<=256
  all:∀k,k<t.aG.length->lM t k
theorem getO_D{l:List Int}{k:Nat}(h:k<l.length):mO l (k:Int)=some (l.getD k 0):=by rw [mH rfl h,dR h]
theorem getLo{t:ap}{k:Nat}(h:k<t.aG.length):mO t.aG (k:Int)=some (Lo t k):=getO_D h
theorem getHi{t:ap}{k:Nat}(h:k<t.aB.length):mO t.aB (k:Int)=some (Hi t k):=getO_D h
theorem tab_ok(t:ap):Ok (b8 t) (fun e=>e=0∧me t∨e=21∧¬me t):=by
  unfold b8
  refine Cy (fun h=>DD (.inr ⟨rfl,fun e=>by have:=e.step;omega⟩)) (fun s1=>Cy (fun h=>DD (.inr ⟨rfl,fun e=>by have:=e.step;omega⟩)) (fun s2=>Ok.xL (fun h=>DD (.inr ⟨rfl,fun e=>by have:=e.same;omega⟩)) (fun z=>Cy (fun h=>DD (.inr ⟨rfl,fun e=>by have:=e.len;omega⟩)) (fun B=>Cy (fun h=>DD (.inr ⟨rfl,fun e=>by have:=e.len;omega⟩)) (fun C=>?_)))))
  refine Cs (P:=fun o:Unit⊕Int=>match o with| .inl _=>∀k,k<t.aG.length->lM t k| .inr e=>e=21∧∃k,k<t.aG.length∧¬lM t k)
    (Cx (fun s:Int×Int×Int=>∃k:Nat,s=((if k=0 then 0 else Lo t (k-1)),(if k=0 then 0 else Hi t (k-1)),(k:Int))∧k<=t.aG.length∧∀j,j<k->lM t j) (fun s=>((t.aG.length:Int)-s.2.2).toNat) ?_ ⟨0,rfl,AL _,fun j h=>om⟩) (fun o p=>?_)
  · rintro s ⟨k,rfl,v,m⟩
    unfold iE
    dsimp only
    refine Cy (fun u=>?_) (fun r=>DF (fun j n=>m j om))
    have hk:k<t.aG.length:=by omega
    have l:k<t.aB.length:=by omega
    rw [getLo hk,getHi l]
    simp only [zb]
    have c:0<k->0<=Lo t (k-1)∧Lo t (k-1)<=Hi t (k-1):=fun h=>by
      obtain⟨a, -,b, -⟩:=m (k-1) om;exact⟨a,b⟩
    by_cases g:k=0
    · subst g
      simp only [if_true]
      refine Cy (fun h=>DF ⟨rfl,0,hk,fun e=>by have:=e.1;omega⟩) (fun a1=>Cy (fun h=>DF ⟨rfl,0,hk,fun e=>by obtain⟨f, -,e2, -⟩:=e;omega⟩) (fun a2=>Cy (fun h=>DF ⟨rfl,0,hk,fun e=>by obtain⟨f, -,e2, -⟩:=e;omega⟩) (fun a3=>Cy (fun h=>DF ⟨rfl,0,hk,fun e=>by obtain⟨-,f, -⟩:=e;omega⟩) (fun a4=>?_))))
      refine DA ⟨1,by simp [Co],om,fun j n=>?_⟩ (by simp [Co];omega)
      obtain rfl:j=0:=by omega
      exact⟨om,om,om,fun h=>om⟩
    · rw [if_neg g,if_neg g]
      obtain⟨x,y⟩:=c om
      refine Cy (fun h=>DF ⟨rfl,k,hk,fun e=>by have:=(e.2.2.2 om).1;omega⟩) (fun a1=>Cy (fun h=>DF ⟨rfl,k,hk,fun e=>by have:=(e.2.2.2 om).2;omega⟩) (fun a2=>Cy (fun h=>DF ⟨rfl,k,hk,fun e=>by obtain⟨f, -,e2, -⟩:=e;omega⟩) (fun a3=>Cy (fun h=>DF ⟨rfl,k,hk,fun e=>by obtain⟨-,f, -⟩:=e;omega⟩) (fun a4=>?_))))
      rw [w64 om om]
      refine DA ⟨k+1,sm,om,fun j n=>?_⟩ za
      by_cases i:j=k
      · subst i
        exact⟨om,om,om,fun _=>⟨om,om⟩⟩
      · exact m j om
  · rcases o with _|e
    · exact DD (.inl ⟨rfl,⟨⟨om,om⟩,om,⟨om,om⟩,p⟩⟩)
    · obtain⟨rfl,k,h1,q⟩:=p
      exact DD (.inr ⟨rfl,fun e=>q (e.all k h1)⟩)
theorem rtab_ok(t:ap):Ok (cg t) (fun e=>e=0∧me t∨e=21∧¬me t):=by
  unfold cg
  refine Cy (fun h=>DD (.inr ⟨rfl,fun e=>by have:=e.step;omega⟩)) (fun s1=>Cy (fun h=>DD (.inr ⟨rfl,fun e=>by have:=e.step;omega⟩)) (fun s2=>Ok.xL (fun h=>DD (.inr ⟨rfl,fun e=>by have:=e.same;omega⟩)) (fun u=>Cy (fun h=>DD (.inr ⟨rfl,fun e=>by have:=e.len;omega⟩)) (fun v=>Cy (fun h=>DD (.inr ⟨rfl,fun e=>by have:=e.len;omega⟩)) (fun x=>?_)))))
  refine Cs (P:=fun o:Unit⊕Int=>match o with| .inl _=>∀k,k<t.aG.length->lM t k| .inr e=>e=21∧∃k,k<t.aG.length∧¬lM t k)
    (Cx (fun s:Int=>∃k:Nat,s=(k:Int)∧k<=t.aG.length∧∀j,j<k->lM t j) (fun s=>((t.aG.length:Int)-s).toNat) ?_ ⟨0,rfl,AL _,fun j h=>om⟩) (fun o c=>?_)
  · rintro s ⟨k,rfl,r,g⟩
    unfold ja
    refine Cy (fun p=>?_) (fun l=>DF (fun j m=>g j om))
    have hk:k<t.aG.length:=by omega
    have b:k<t.aB.length:=by omega
    rw [getLo hk,getHi b]
    simp only [zb]
    refine Cy (fun h=>DF ⟨rfl,k,hk,fun e=>by have:=e.1;omega⟩) (fun a1=>Cy (fun h=>DF ⟨rfl,k,hk,fun e=>by have:=e.2.1;omega⟩) (fun a2=>Cy (fun h=>DF ⟨rfl,k,hk,fun e=>by have:=e.2.2.1;omega⟩) (fun a3=>?_)))
    have fin:(0<k->Lo t (k-1)<=Lo t k∧Hi t (k-1)<=Hi t k)->Ok (some (mI.next (Bw .i64 ((k:Int)+1))):Option (mI Int (Unit⊕Int))) (Ok.S (fun s:Int=>∃k:Nat,s=(k:Int)∧k<=t.aG.length∧∀j,j<k->lM t j) (fun s=>((t.aG.length:Int)-s).toNat) (fun o:Unit⊕Int=>match o with| .inl _=>∀k,k<t.aG.length->lM t k| .inr e=>e=21∧∃k,k<t.aG.length∧¬lM t k) (k:Int)):=fun hm=>by
      rw [w64 om om]
      refine DA ⟨k+1,sm,om,fun j m=>?_⟩ om
      by_cases a:j=k
      · subst a
        exact⟨om,om,om,hm⟩
      · exact g j om
    refine Cy (fun f=>?_) (fun h=>fin (fun q=>om))
    rw [w64 (n:=(k:Int)-1) om om,show(k:Int)-1=((k-1:Nat):Int)by omega,getLo (k:=k-1) om,getHi (k:=k-1) om]
    simp only [zb]
    exact Cy (fun h=>DF ⟨rfl,k,hk,fun e=>by have:=(e.2.2.2 om).1;omega⟩) (fun a4=>Cy (fun h=>DF ⟨rfl,k,hk,fun e=>by have:=(e.2.2.2 om).2;omega⟩) (fun a5=>fin fun _=>⟨om,om⟩))
  · rcases o with _|e
    · exact DD (.inl ⟨rfl,⟨⟨om,om⟩,om,⟨om,om⟩,c⟩⟩)
    · obtain⟨rfl,k,h1,i⟩:=c
      exact DD (.inr ⟨rfl,fun e=>i (e.all k h1)⟩)
theorem ko(t:ap):(b8 t=some 0∧cg t=some 0∧me t)∨(b8 t=some 21∧cg t=some 21∧¬me t):=by
  obtain⟨a,a1,a2⟩:=tab_ok t
  obtain⟨b,e,c⟩:=rtab_ok t
  rcases a2 with⟨rfl,a2⟩|⟨rfl,a2⟩<;>rcases c with⟨rfl,c⟩|⟨rfl,c⟩
  · exact .inl ⟨a1,e,a2⟩
  · exact(c a2).elim
  · exact(a2 c).elim
  · exact .inr ⟨a1,e,a2⟩
theorem half_at(n:Nat)(h:n<=1000):Bw .i64 (mT .u64 (Bw .u64 (Bw .i64 (n:Int))) 1)=((n / 2:Nat):Int):=by
  rw [w64 (n:=(n:Int)) om om,IntWalk.u64_in (n:Int) om]
  have:mT .u64 (n:Int) 1=(n:Int) / 2:=shrU om 1 om
  rw [this,w64 om om];omega
theorem search_ok{t:ap}(c:me t)(d:Int)(o:d<=t.aY*((t.aG.length:Int)-1)):Ok (fk (t.aB.length:Int) t d) (fun r=>(0<=r∧r<t.aB.length)∧d<=r*t.aY∧(0<r->(r-1)*t.aY<d)):=by
  have p:=c.len;have q:=c.same;have l:=c.step
  unfold fk
  rw [Cp]
  refine Cx (fun s=>∃i j:Nat,s=((i:Int),(j:Int))∧i<t.aB.length∧i<=j∧j<=t.aB.length∧(j<t.aB.length->d<=(j:Int)*t.aY)∧(0<i->((i:Int)-1)*t.aY<d)) (fun s=>(s.2-s.1).toNat) ?_ ⟨0,t.aB.length,rfl,om,om,AB _,fun h=>om,fun h=>om⟩
  rintro s ⟨i,j,rfl,i0,i1,i2,i3,i4⟩
  unfold iD
  dsimp only
  refine Cy (fun b=>?_) (fun f=>DF ⟨⟨om,om⟩,?_,fun h=>i4 om⟩)
  rotate_left
  · obtain rfl:i=j:=by omega
    exact i3 i0
  have e:=half_at (i+j) om
  rw [CZ]at e
  have g:(i+j) / 2<j:=by omega
  have a:i<=(i+j) / 2:=by omega
  rw [e]
  generalize (i+j) / 2=k at*
  unfold fu
  have m:0<=(k:Int)*t.aY∧(k:Int)*t.aY<=256*1048576:=⟨CX om om,CW om om om om⟩
  rw [w64 (n:=(k:Int)*t.aY) om om,zb]
  refine Cw (fun b=>?_) (fun hle=>DA ⟨i,k,rfl,i0,a,om,fun _=>hle,i4⟩ za)
  rw [w64 om om]
  refine DA ⟨k+1,j,sm,?_,om,i2,i3,fun _=>?_⟩ za
  · have h1:(k:Int)*t.aY<t.aY*((t.aG.length:Int)-1):=by omega
    rw [CV]at h1
    have:=Int.lt_of_mul_lt_mul_left h1 om
    omega
  · rw [show(((k+1:Nat):Int)-1)=k by omega];omega
theorem between_eq(t:ap){a b:Int}(W:b<=13194139533312):∃r,e9 t a b=some r∧fH t a b=some r:=by
  unfold e9 fH
  rcases ko t with⟨m,e2,e⟩|⟨m,e2,e⟩
  rotate_left
  · rw [m,e2];exact⟨_,rfl,rfl⟩
  rw [m,e2]
  simp only [zb]
  simp only [bne_self_eq_false,Ac,if_false]
  by_cases h1:a<0
  · simp only [h1,decide_true,if_true];exact⟨_,rfl,rfl⟩
  simp only [h1,decide_false,Ac,if_false]
  by_cases p:a>b
  · simp only [p,decide_true,if_true];exact⟨_,rfl,rfl⟩
  simp only [p,decide_false,Ac,if_false]
  obtain⟨c,v,y,L,N,O,z⟩:=Ceil_eq (n:=b) om om
  obtain⟨x,J,K,s⟩:=Floor_eq (n:=a) om om
  have X:=e.len;have Y:=e.same;have E:=e.step
  have T:0<=t.aY*((t.aG.length:Int)-1)∧t.aY*((t.aG.length:Int)-1)<=1048576*256:=⟨CX om om,CW om om om om⟩
  unfold ks la
  rw [v,y,e2]
  simp only [zb]
  simp only [bne_self_eq_false,Ac,if_false]
  rw [w64 (n:=(t.aG.length:Int)-1) om om,w64 (n:=t.aY*((t.aG.length:Int)-1)) om om]
  simp only [zb]
  by_cases q:c>t.aY*((t.aG.length:Int)-1)
  · simp only [q,decide_true,if_true];exact⟨_,rfl,rfl⟩
  simp only [q,decide_false,Ac,if_false]
  obtain⟨u,u1,⟨u2,u3⟩,u4,I⟩:=search_ok e c om
  have F:x<=c:=by
    obtain⟨f,f1,f2,f3⟩:=Floor_eq (n:=b) om om
    have Q:=z f f3
    obtain⟨g1,g2,g3⟩:=s
    obtain⟨k1,k2,k3⟩:=f3
    apply DO
    intro h
    have:(f+1)*(f+1)<=x*x:=CW om om om om
    omega
  have i:=s.1
  have C:0<=x.tdiv t.aY:=C8 i om
  have D:x.tdiv t.aY<=(t.aG.length:Int)-1:=by
    rw [C6 i]
    exact Int.ediv_le_of_le_mul om (by rw [CV];omega)
  have B:(c+t.aY-1).tdiv t.aY=u:=by
    rw [C6 om]
    have g1:u<=(c+t.aY-1) / t.aY:=by
      rw [CR om]
      rcases Int.lt_or_eq_of_le u2 with h|h
      · have:=I h
        rw [Int.sub_mul,C3]at this;omega
      · rw [<-h];omega
    have g2:(c+t.aY-1) / t.aY<u+1:=by
      rw [Int.ediv_lt_iff_lt_mul om,Int.add_mul,C3];omega
    omega
  obtain⟨j,o⟩:∃j:Nat,x.tdiv t.aY=j:=⟨(x.tdiv t.aY).toNat,om⟩
  obtain⟨un,g⟩:∃un:Nat,u=un:=⟨u.toNat,om⟩
  have G:nU .i64 x t.aY=some (j:Int):=by unfold nU;rw [if_neg om,o,w64 om om]
  have H:nU .i64 (c+t.aY-1) t.aY=some (un:Int):=by unfold nU;rw [if_neg om,B,g,w64 om om]
  unfold k9 lb
  rw [u1,J,K,w64 (n:=c+t.aY) om om,w64 (n:=c+t.aY-1) om om,H]
  simp only [zb]
  rw [G,g]
  simp only [zb]
  rw [getO_D (l:=t.aG) (k:=j) om,getO_D (l:=t.aB) (k:=un) om]
  exact⟨_,rfl,rfl⟩
end Go.Dw.Es
set_option maxRecDepth 100000
set_option maxHeartbeats 4000000
namespace Go.Dw.Es
namespace Sq
open Go.Dw
abbrev Src:=ak
theorem byteO_at{s:List UInt8}{n:Int}{i:Nat}(a:n=i)(hi:i<s.length):pg s n=some ((s[i].toNat:Nat):Int):=by
  subst a
  unfold pg
  rw [if_pos ⟨om,om⟩,BV,Bd,zc hi];rfl
theorem cutO_at{α:Type}{l:List α}{a b:Int}{i j:Nat}(c:a=i)(e:b=j)(h1:i<=j)(f:j<=l.length):sD l a b=some ((l.drop i).take (j-i)):=by
  subst c e
  unfold sD
  rw [if_pos ⟨om,om,om⟩,BV,BV]
theorem lm{α:Type}{l m:List α}{b:Nat}(h:(l.length+m.length)*b<=140737488355328):nK l m b=some (l++m):=by
  unfold nK
  rw [if_pos h]
theorem loop_list{α ω:Type}{body:Int->Option (mI Int ω)}(l:List α){p:α->Bool}{u r:ω}(h1:∀(i:Nat)(hi:i<l.length),body i=if p l[i]=true then some (.next ((i+1:Nat):Int))else some (.stop r))
    (c:body (l.length:Nat)=some (.stop u)):mF body (0:Int)=some (if l.all p=true then u else r):=by
  have:∀k i,i+k=l.length->mF body (i:Int)=some (if(l.drop i).all p=true then u else r):=by
    intro k
    induction k with
    |zero=>
      intro i hi
      obtain rfl:i=l.length:=by omega
      rw [mG c];simp
    |succ k e=>
      intro i hi
      have a:i<l.length:=by omega
      rw [Cb a,CB]
      by_cases b:p l[i]=true
      · rw [mK (by rw [h1 i a,if_pos b]),e (i+1) om,b,DN]
      · rw [mG (by rw [h1 i a,if_neg b])];simp [b]
  have:=this l.length 0 om
  simpa using this
def jY(c:UInt8):Bool:=(decide (65<=c.toNat)&&decide (c.toNat<=90))||(decide (48<=c.toNat)&&decide (c.toNat<=57))
theorem dec1(n:Nat):decide ((n:Int)>=65)=decide (65<=n):=decide_eq_decide.2 om
theorem dec2(n:Nat):decide ((n:Int)<=90)=decide (n<=90):=decide_eq_decide.2 om
theorem dec3(n:Nat):decide ((n:Int)>=48)=decide (48<=n):=decide_eq_decide.2 om
theorem dec4(n:Nat):decide ((n:Int)<=57)=decide (n<=57):=decide_eq_decide.2 om
theorem plain_eq(c:UInt8):iI ((c.toNat:Nat):Int)=some (jY c):=by
  unfold iI jY
  rw [dec1,dec2,dec3,dec4]
  cases decide (65<=c.toNat)<;>cases decide (c.toNat<=90)<;>cases decide (48<=c.toNat)<;>simp
def fo(s:List UInt8)(lo hi:Int):Bool:=s.all jY&&(decide ((s.length:Int)>=lo)&&decide ((s.length:Int)<=hi))
theorem code_l7{s:List UInt8}(a:s.length<=9223372036854775807):mF (gJ s) (0:Int)=some (if s.all jY=true then .inl ()else .inr false):=by
  refine loop_list s (fun i hi=>?_) ?_
  · unfold gJ
    rw [if_pos so,byteO_at rfl hi,w64 om om]
    simp only [zb,plain_eq]
    cases jY s[i]<;>simp
  · unfold gJ
    rw [if_neg sm]
theorem code_eq{s:List UInt8}(a:s.length<=9223372036854775807)(lo hi:Int):e7 s lo hi=some (fo s lo hi):=by
  unfold e7 fo
  rw [code_l7 a]
  cases s.all jY with
  |true=>cases decide ((s.length:Int)>=lo)<;>simp
  |false=>rfl
def SidLen(x:Src):Prop:=x.aZ.length<=9223372036854775807∧x.aS.length<=9223372036854775807∧x.aO.length<=9223372036854775807∧x.bg.length<=9223372036854775807
def ef(x:Src):Bool:=fo x.aZ 1 2&&(fo x.aS 1 5&&(fo x.aO 0 2&&(decide (x.aO.length≠1)&&fo x.bg 3 3)))
theorem kJ{x:Src}(f:SidLen x):fm x=some (ef x):=by
  obtain⟨h1,a,b,c⟩:=f
  unfold fm ef
  simp only [code_eq h1,code_eq a,code_eq b,code_eq c,zb]
  have e:((x.aO.length:Int) != 1)=decide (x.aO.length≠1):=by
    by_cases h:x.aO.length=1
    · simp [h]
    · simp [h];omega
  rw [e]
  cases fo x.aZ 1 2<;>cases fo x.aS 1 5<;>cases fo x.aO 0 2<;>cases decide (x.aO.length≠1)<;>simp
theorem lp{s:List UInt8}{lo:Int}{hi:Nat}(h:fo s lo hi=true):s.length<=hi:=by
  unfold fo at h
  simp only [A5,decide_eq_true_eq]at h
  omega
theorem valid_len{x:Src}(h:ef x=true):x.aZ.length<=2∧x.aS.length<=5∧x.aO.length<=2∧x.bg.length<=3:=by
  unfold ef at h
  simp only [A5]at h
  exact⟨lp (hi:=2) h.1,lp (hi:=5) h.2.1,lp (hi:=2) h.2.2.1,lp (hi:=3) h.2.2.2.2⟩
end Sq
end Go.Dw.Es
set_option maxRecDepth 100000
set_option maxHeartbeats 4000000
namespace Go.Dw.Es
open Go.Dw
abbrev Src:=aa
abbrev Pick:=ai
abbrev Sid:=ak
theorem mod_ok(a b:Int)(f:1<=b)(h1:b<=1000000000):Ok (kM a b) (fun r=>0<=r∧r<b):=by
  unfold kM
  have i:a.tmod b<b:=C9 _ om
  have g: -b<a.tmod b:=by
    rcases CU 0 a with h|h
    · have:=Int.tmod_nonneg b h;omega
    · have e:a.tmod b= -((-a).tmod b):=by rw [Int.neg_tmod];omega
      have:=C9 (-a) (show 0<b by omega)
      omega
  refine Cy (fun _=>om) (fun _=>?_)
  refine Cs (Ok.rem om) (fun x c=>?_)
  subst c
  refine Cy (fun _=>?_) (fun _=>?_)
  · rw [w64 om om]
    exact DD om
  · exact DD om
def bt(d:Src):Prop:=0<=d.fAt∧d.fAt<=d.fL.length∧d.fL.length<=2000
theorem raw_ok(d:Src)(c:bt d):Ok (Src_Raw d) (fun r=>bt r.2):=by
  obtain⟨b,h1,a⟩:=c
  unfold Src_Raw
  refine Cy (fun _=>DD ⟨b,h1,a⟩) (fun h=>?_)
  rw [w64 (n:=d.fAt+1) om om,w64 om om]
  refine Cs (Cu om om) (fun x _=>?_)
  refine DD ⟨?_,?_,a⟩<;>simp only<;>omega
theorem cK(k:Int)(d:Src)(c:bt d)(b:1<=k)(h1:k<=1000000000):Ok (ca k d) (fun r=>0<=r.1∧r.1<k∧bt r.2):=by
  unfold ca
  refine Cs (raw_ok d c) (fun x e=>?_)
  refine Cs (mod_ok _ _ b h1) (fun y a=>?_)
  exact DD ⟨a.1,a.2,e⟩
theorem cV(l:List Int)(d:Src)(c:bt d)(b:l≠ [])(h1:l.length<=1000000):Ok (cd l d) (fun r=>r.1∈l∧bt r.2):=by
  unfold cd
  have:=List.length_pos_iff.2 b
  refine Cs (cK _ d c om om) (fun x a=>?_)
  refine Cs (Cu a.1 a.2.1) (fun y e=>?_)
  exact DD ⟨e.1,a.2.2⟩
def stas:List (List UInt8):=[[83,49],[83,50],[83,51],[83,52],[83,53],[83,54]]
def IsSid(a:Sid):Prop:=Sq.ef a=true
theorem stas_ok:∀x∈stas,Sq.ef ⟨[65,66],x,[48,48],[66,72,90]⟩=true:=by decide+kernel
theorem source_ok(n:Int):Ok (eU n) IsSid:=by
  unfold eU
  refine Cs (mod_ok n 6 om om) (fun x a=>?_)
  refine Cs (Cu a.1 a.2) (fun y b=>?_)
  exact DD (stas_ok y b.1)
theorem new_ok(l:List Int):Ok (ml l) bt:=by
  unfold ml
  refine Cs (Ok.cut om (by split<;>omega) (by split<;>omega)) (fun x a=>?_)
  subst a
  refine DD ⟨sm,sm,?_⟩
  simp only [List.length_take,List.length_drop]
  split<;>omega
def jz(m:Int)(p:ac):Prop:=(-m<=p.fX∧p.fX<=m)∧(-m<=p.fY∧p.fY<=m)∧(-m<=p.fZ∧p.fZ<=m)
theorem kS(m:Int)(e:0<=m)(h1:m<=1000)(d:Src)(a:bt d):Ok (iJ m d) (fun r=>jz m r.1∧bt r.2):=by
  unfold iJ
  rw [w64 (n:=2*m) om om,w64 (n:=2*m+1) om om,w64 (n:=m+1) om om]
  refine Cs (cK _ _ a om om) (fun b g1=>?_)
  refine Cs (cK _ _ g1.2.2 om om) (fun c g2=>?_)
  refine Cs (cK _ _ g2.2.2 om om) (fun f g3=>?_)
  rw [w64 (n:=b.1-m) om om,w64 (n:=c.1-m) om om]
  exact DD ⟨⟨za,za,za⟩,g3.2.2⟩
def BoxOk(b:aq):Prop:=jz 40 b.aG∧(0<=b.aB.fX-b.aG.fX∧b.aB.fX-b.aG.fX<=6)∧(0<=b.aB.fY-b.aG.fY∧b.aB.fY-b.aG.fY<=6)∧(0<=b.aB.fZ-b.aG.fZ∧b.aB.fZ-b.aG.fZ<=6)
theorem box_ok(m side:Int)(b:0<=m)(h1:m<=40)(i:0<=side)(j:side<=6)(d:Src)(c:bt d):Ok (Src_Box m side d) (fun r=>BoxOk r.1∧bt r.2):=by
  unfold Src_Box
  rw [w64 (n:=side+1) om om]
  refine Cs (kS m b om d c) (fun a g0=>?_)
  refine Cs (cK _ _ g0.2 om om) (fun e g1=>?_)
  refine Cs (cK _ _ g1.2.2 om om) (fun f g2=>?_)
  refine Cs (cK _ _ g2.2.2 om om) (fun g g3=>?_)
  obtain⟨⟨k,l,o⟩, -⟩:=g0
  rw [w64 (n:=a.1.fX+e.1) om om,w64 (n:=a.1.fY+f.1) om om,w64 (n:=a.1.fZ+g.1) om om]
  refine DD ⟨⟨⟨za,za,za⟩,za,za,za⟩,g3.2.2⟩
structure TabOk(t:ap):Prop where
  step:t.aY=20∨t.aY=25∨t.aY=40∨t.aY=100
  len:1<=t.aG.length∧t.aG.length<=30
  same:t.aB.length=t.aG.length
  low:∀x∈t.aG,0<=x∧x<=3000
  high:∀x∈t.aB,0<=x∧x<=5000
theorem table_ok(d:Src)(t:bt d):Ok (jD d) (fun r=>TabOk r.1∧bt r.2):=by
  unfold jD
  refine Cs (cV _ d t sm sm) (fun c h1=>?_)
  obtain⟨a,h1⟩:=h1
  have a:c.1=20∨c.1=25∨c.1=40∨c.1=100:=by simpa using a
  refine Cs (cK _ _ h1 om om) (fun L m=>?_)
  have j:∃q,Bw .i64 ((400:Int).tdiv c.1)=q∧4<=q∧q<=20:=by
    rcases a with e|e|e|e<;>rw [e]<;>exact⟨_,rfl,by decide,by decide⟩
  have i:∃q,Bw .i64 (c.1.tdiv 4)=q∧0<=q∧q<=25:=by
    rcases a with e|e|e|e<;>rw [e]<;>exact⟨_,rfl,by decide,by decide⟩
  obtain⟨q,j,E,F⟩:=j
  obtain⟨p,i,C,D⟩:=i
  refine Cs (P:=fun o=>bt ⟨o.1,o.2.1⟩∧(1<=o.2.2.1.length∧o.2.2.1.length<=30)∧o.2.2.2.length=o.2.2.1.length∧(∀x∈o.2.2.1,0<=x∧x<=3000)∧(∀x∈o.2.2.2,0<=x∧x<=5000))
    (Cx (fun s => (0 ≤ s.2.2.1 ∧ s.2.2.1 ≤ 23) ∧ s.2.2.2.2.2.1.length = s.2.2.1.toNat ∧ s.2.2.2.2.2.2.length = s.2.2.1.toNat ∧ (0 ≤ s.1 ∧ s.1 ≤ 60 * s.2.2.1) ∧ (0 ≤ s.2.1 ∧ s.2.1 ≤ 100 * s.2.2.1 + 2) ∧ bt ⟨s.2.2.2.1, s.2.2.2.2.1⟩ ∧ (∀ x ∈ s.2.2.2.2.2.1, 0 ≤ x ∧ x ≤ 3000) ∧ (∀ x ∈ s.2.2.2.2.2.2, 0 ≤ x ∧ x ≤ 5000))
      (fun s=>(23-s.2.2.1).toNat) ?_ ⟨⟨sm,sm⟩,rfl,rfl,⟨sm,sm⟩,⟨za,za⟩,m.2.2,sm,sm⟩) ?_
  · rintro⟨v,G,y,H,I,J,K⟩ ⟨i0,i1,i2,i3,i4,i5,i6,i7⟩
    simp only at i0 i1 i2 i3 i4 i5 i6 i7
    unfold jv
    refine Cs (DC om) (fun z g1=>?_)
    rw [j]at g1;subst g1
    refine Cs (cK _ _ i5 om om) (fun B g2=>?_)
    rw [w64 (n:=z+B.1) om om]
    refine Cy (fun hle=>?_) (fun u=>?_)
    · refine Cs (Cr (by simp only [AW,AX];omega)) (fun N g3=>?_)
      refine Cs (Cr (by simp only [AW,AX];omega)) (fun O g4=>?_)
      refine Cs (cV _ _ g2.2.2 sm sm) (fun g g5=>?_)
      refine Cs (DC om) (fun k g6=>?_)
      rw [i]at g6;subst g6
      refine Cs (cV _ _ g5.2 sm sm) (fun l g7=>?_)
      have a1:0<=g.1∧g.1<=35:=by have:=g5.1;simp at this;omega
      have a2:0<=l.1∧l.1<=30:=by have:=g7.1;simp at this;omega
      rw [w64 (n:=g.1+k) om om,w64 (n:=v+(g.1+k)) om om,w64 (n:=y+1) om om,w64 (by split<;>omega) (by split<;>omega)]
      subst g3 g4
      refine DA ⟨⟨za,za⟩,?_,?_,⟨za,za⟩,⟨by simp only;split<;>omega,by simp only;split<;>omega⟩,g7.2,?_,?_⟩ za
      · simp only [BE,AW,AX];omega
      · simp only [BE,AW,AX];omega
      · intro x b
        simp only [Bj,Bk]at b
        rcases b with b|rfl
        · exact i6 x b
        · omega
      · intro x b
        simp only [Bj,Bk]at b
        rcases b with b|rfl
        · exact i7 x b
        · omega
    · exact DF ⟨g2.2.2,⟨za,za⟩,za,i6,i7⟩
  · intro o f
    exact DD ⟨⟨a,f.2.1,f.2.2.1,f.2.2.2.1,f.2.2.2.2⟩,f.1⟩
theorem association_ok{k:Int}(hk:0<=k∧k<=6)(d:Src)(i:bt d):Ok (fJ k d) (fun r=>(BoxOk r.1.aU∧TabOk r.1.bj)∧bt r.2):=by
  unfold fJ
  refine Cs (box_ok 20 k om om om om d i) (fun j h1=>?_)
  refine Cs (table_ok _ h1.2) (fun l a=>?_)
  refine Cs (cV _ _ a.2 sm sm) (fun m b=>?_)
  refine Cs (cV _ _ b.2 sm sm) (fun n c=>?_)
  refine Cs (cV _ _ c.2 sm sm) (fun o e=>?_)
  refine Cs (cV _ _ e.2 sm sm) (fun p f=>?_)
  refine Cs (cK _ _ f.2 om om) (fun q g=>?_)
  exact DD ⟨⟨h1.1,a.1⟩,g.2.2⟩
theorem scale_ok(d:Src)(e:bt d):Ok (ll d) (fun r=>(r.1.aV.aG.length<=30∧r.1.aV.aB.length<=30)∧bt r.2):=by
  unfold ll
  refine Cs (table_ok _ e) (fun a h1=>?_)
  refine Cs (cK _ _ h1.2 om om) (fun n b=>?_)
  refine Cs (cK _ _ b.2.2 om om) (fun p c=>?_)
  have i:=h1.1.len;have g:=h1.1.same
  refine Cs (P:=fun o:List Int×List Int=>o.1.length=a.1.aG.length∧o.2.length=a.1.aG.length) (Cx (fun s=>0<=s.1∧s.2.1.length=a.1.aG.length∧s.2.2.length=a.1.aG.length) (fun s=>((a.1.aG.length:Int)-s.1).toNat) ?_ ⟨CT _,rfl,g⟩) (fun o j=>DD ⟨⟨za,za⟩,c.2.2⟩)
  rintro⟨k,l,m⟩ ⟨i0,i1,i2⟩
  simp only at i0 i1 i2
  unfold lL
  refine Cy (fun f=>?_) (fun _=>DF ⟨i1,i2⟩)
  refine Cs (DG om om) (fun _ _=>?_)
  refine Cs (Cu om om) (fun q g1=>?_)
  refine Cs (DC om) (fun t g2=>?_)
  refine Cs (DG om om) (fun _ _=>?_)
  refine Cs (Cu om om) (fun u g3=>?_)
  refine Cs (DC om) (fun v g4=>?_)
  refine Cs (DG om om) (fun _ _=>?_)
  refine Cs (DE om om) (fun x g5=>?_)
  refine Cs (DG om om) (fun _ _=>?_)
  refine Cs (DE om om) (fun y g6=>?_)
  subst g5 g6
  rw [w64 om om]
  exact DA ⟨za,by simpa using i1,by simpa using i2⟩ za
theorem settings_ok{k:Int}(hk:0<=k∧k<=6)(d:Src)(c:bt d):Ok (iF k d) (fun r=>((BoxOk r.1.ae.aU∧TabOk r.1.ae.bj)∧(r.1.bi.aV.aG.length<=30∧r.1.bi.aV.aB.length<=30))∧bt r.2):=by
  unfold iF
  refine Cs (association_ok hk d c) (fun e h1=>?_)
  refine Cs (scale_ok _ h1.2) (fun f a=>?_)
  refine Cs (cV _ _ a.2 sm sm) (fun g b=>?_)
  exact DD ⟨⟨h1.1,a.1⟩,b.2⟩
theorem response_ok(d:Src)(f:bt d):Ok (er d) (fun r=>bt r.2):=by
  unfold er
  refine Cs (cK _ _ f om om) (fun p h1=>?_)
  refine Cs (P:=fun o=>bt ⟨o.1,o.2.1⟩) (Cx (fun s=>0<=s.1∧s.1+s.2.2.2.length<=4∧bt ⟨s.2.1,s.2.2.1⟩) (fun s=>s.1.toNat) ?_ ⟨za,by simp only [AX];omega,h1.2.2⟩) (fun o i=>DD i)
  rintro⟨s2,l,m,b⟩ ⟨i0,i1,i2⟩
  simp only at i0 i1 i2
  unfold gP
  have a:∀(x:au),Ok (nK b [x] 96) (fun r=>r=b++[x]):=fun x=>Cr (by simp only [AW,AX];omega)
  refine Cy (fun g=>?_) (fun _=>DF i2)
  refine Cs (cK _ _ i2 om om) (fun q g1=>?_)
  refine DB (fun _=>?_) (fun _=>DB (fun _=>?_) (fun _=>?_))
  · refine Cs (cV _ _ g1.2.2 sm sm) (fun c g2=>?_)
    refine Cs (cV _ _ g2.2 sm sm) (fun e g3=>?_)
    refine Cs (a _) (fun j g4=>?_)
    subst g4
    rw [w64 (n:=s2-1) om om]
    exact DA ⟨za,by simp only [BE,AW,AX];omega,g3.2⟩ za
  · refine Cs (cK _ _ g1.2.2 om om) (fun c g2=>?_)
    refine Cs (cK _ _ g2.2.2 om om) (fun e g3=>?_)
    refine Cs (cK _ _ g3.2.2 om om) (fun j g4=>?_)
    refine Cs (cK _ _ g4.2.2 om om) (fun t g5=>?_)
    refine Cs (cK _ _ g5.2.2 om om) (fun u g6=>?_)
    refine Cs (cK _ _ g6.2.2 om om) (fun v g7=>?_)
    refine Cs (a _) (fun k g8=>?_)
    subst g8
    rw [w64 (n:=s2-1) om om]
    exact DA ⟨za,by simp only [BE,AW,AX];omega,g7.2.2⟩ za
  · refine Cs (cK _ _ g1.2.2 om om) (fun c g2=>?_)
    refine Cs (cK _ _ g2.2.2 om om) (fun e g3=>?_)
    refine Cs (a _) (fun k g8=>?_)
    subst g8
    rw [w64 (n:=s2-1) om om]
    exact DA ⟨za,by simp only [BE,AW,AX];omega,g3.2.2⟩ za
def ChanOk(c:aj):Prop:=c.aH.length<=3∧∀e∈c.aH,jz 60 e.aI
def InvOk(v:ah):Prop:=v.aw.length<=6∧∀c∈v.aw,ChanOk c
theorem sites_ok(d:Src)(l:bt d):Ok (iL 6 d) (fun r=>InvOk r.1∧bt r.2):=by
  unfold iL
  refine Cs (P:=fun o=>bt ⟨o.1,o.2.1⟩∧(o.2.2.length<=6∧∀c∈o.2.2,ChanOk c)) (Cx (fun s=>(0<=s.1∧s.1<=6)∧s.2.2.2.length<=s.1.toNat∧(∀c∈s.2.2.2,ChanOk c)∧bt ⟨s.2.1,s.2.2.1⟩) (fun s=>(6-s.1).toNat) ?_ ⟨⟨sm,sm⟩,sm,sm,l⟩) (fun o k=>DD ⟨k.2,k.1⟩)
  rintro⟨s1,s2,t,j⟩ ⟨i0,i1,i2,i3⟩
  simp only at i0 i1 i2 i3
  unfold ju
  have b:∀(x:aj),Ok (nK j [x] 88) (fun r=>r=j++[x]):=fun x=>Cr (by simp only [AW,AX];omega)
  have a:∀{x:aj},ChanOk x->∀c∈j++[x],ChanOk c:=fun f c i=>by
    simp only [Bj,Bk]at i
    rcases i with i|rfl
    · exact i2 c i
    · exact f
  refine Cy (fun m=>?_) (fun _=>DF ⟨i3,za,i2⟩)
  refine Cy (fun _=>?_) (fun _=>DF ⟨i3,za,i2⟩)
  refine Cs (kS 60 om om _ i3) (fun u g1=>?_)
  refine Cs (response_ok _ g1.2) (fun v g2=>?_)
  refine Cs (source_ok _) (fun y g3=>?_)
  refine Cs (cK _ _ g2 om om) (fun z g4=>?_)
  rw [w64 (n:=s1+1) om om]
  refine DB (fun _=>?_) (fun _=>DB (fun _=>?_) (fun _=>?_))
  · refine Cs (cK _ _ g4.2.2 om om) (fun p g5=>?_)
    refine Cs (kS 60 om om _ g5.2.2) (fun B g6=>?_)
    refine Cs (response_ok _ g6.2) (fun C g7=>?_)
    refine Cs (DG om sm) (fun _ _=>?_)
    refine Cs (Cz om sm) (fun q g8=>?_)
    obtain⟨x,f,rfl⟩:=g8
    simp at f
    subst f
    refine Cs (Cr sm) (fun D g9=>?_)
    subst g9
    refine Cs (b _) (fun g g10=>?_)
    subst g10
    refine DA ⟨⟨za,za⟩,by simp only [BE,AW,AX];omega,a ⟨sm,fun e he=>?_⟩,g7⟩ za
    simp at he
    rcases he with rfl|rfl
    · exact g1.1
    · exact g6.1
  · refine Cs (cK _ _ g4.2.2 om om) (fun p g5=>?_)
    refine Cs (DG om sm) (fun _ _=>?_)
    refine Cs (Cz om sm) (fun q g8=>?_)
    obtain⟨x,f,rfl⟩:=g8
    simp at f
    subst f
    refine Cs (b _) (fun g g10=>?_)
    subst g10
    refine DA ⟨⟨za,za⟩,by simp only [BE,AW,AX];omega,a ⟨sm,fun e he=>?_⟩,g5.2.2⟩ za
    simp at he
    subst he
    exact g1.1
  · refine Cs (b _) (fun g g10=>?_)
    subst g10
    refine DA ⟨⟨za,za⟩,by simp only [BE,AW,AX];omega,a ⟨sm,fun e he=>?_⟩,g4.2.2⟩ za
    simp at he
    subst he
    exact g1.1
theorem range_ok(a b:Int)(f: -1000<=a)(h1:a<=1000)(g:0<=b-a)(i:b-a<=1000)(d:Src)(c:bt d):Ok (iK a b d) (fun r=>(a<=r.1∧r.1<=b)∧bt r.2):=by
  unfold iK
  rw [w64 (n:=b-a) om om,w64 (n:=b-a+1) om om]
  refine Cs (cK _ _ c om om) (fun e g1=>?_)
  rw [w64 (n:=a+e.1) om om]
  exact DD ⟨⟨za,za⟩,g1.2.2⟩
theorem point_ok(b:aq)(a:BoxOk b)(d:Src)(c:bt d):Ok (jC b d) (fun r=>jz 60 r.1∧bt r.2):=by
  obtain⟨⟨e,f,g⟩,i,j,k⟩:=a
  unfold jC
  refine Cs (range_ok _ _ om om om om d c) (fun l g1=>?_)
  refine Cs (range_ok _ _ om om om om _ g1.2) (fun m g2=>?_)
  refine Cs (range_ok _ _ om om om om _ g2.2) (fun n g3=>?_)
  exact DD ⟨⟨za,za,za⟩,g3.2⟩
theorem kplace_ok(v:ah)(g:InvOk v)(x:Sid)(t:Int):Ok (jW v x t) (fun r=>jz 60 r.1):=by
  unfold jW
  have k:jz 60 ⟨0,0,0⟩:=⟨sm,sm,sm⟩
  refine Cs (P:=fun o=>match o with| .inl _=>True| .inr r=>jz 60 r.1) (DH v.aw.length om (fun _=>True) trivial ?_) ?_
  · intro i h1 p _
    unfold kP
    refine Cy (fun f=>?_) (fun _=>DF trivial)
    refine Cs (Cu om om) (fun c l=>?_)
    have a:=g.2 c l.1
    have hlen:=g.1
    refine Cs (P:=fun o=>match o with| .inl y=>y=i| .inr r=>jz 60 r.1) (DH c.aH.length om (fun _=>True) trivial ?_) ?_
    · intro j q s _
      unfold kO
      have m:=a.1
      refine Cy (fun f=>?_) (fun _=>DF rfl)
      refine Cs (Cu om om) (fun e he=>?_)
      rw [w64 (n:=j+1) om om]
      refine Cv (fun _=>?_) (fun _=>DA ⟨⟨om,om⟩,trivial⟩ om)
      refine Cy (fun _=>?_) (fun _=>DA ⟨⟨om,om⟩,trivial⟩ om)
      refine Cy (fun _=>?_) (fun _=>DA ⟨⟨om,om⟩,trivial⟩ om)
      exact DF (a.2 e he.1)
    · rintro(y|r) b
      · simp only at b⊢
        subst b
        rw [w64 (n:=y+1) om om]
        exact DA ⟨⟨om,om⟩,trivial⟩ om
      · exact DF b
  · rintro(y|r) b
    · exact DD k
    · exact DD b
def PickOk(p:Pick):Prop:=IsSid p.az∧0<=p.bd∧p.bd<=p.br∧p.br<=p.bk∧p.bk<=200000∧0<=p.aN∧p.aN<=1073741823∧ -1<=p.aT∧p.aT<=1
def PickLo(p:Pick):Prop:=PickOk p∧p.bk<=40000
def PI(n:Nat)(s:Int×Int×List Int×Int×List Pick×Int×Int×Int):Prop:=
  (0<=s.2.1∧s.2.1+s.2.2.2.2.1.length<=n)∧(0<=s.1∧s.1<=2000+1000*s.2.2.2.2.1.length)∧bt ⟨s.2.2.1,s.2.2.2.1⟩∧jz 60 ⟨s.2.2.2.2.2.1,s.2.2.2.2.2.2.1,s.2.2.2.2.2.2.2⟩∧∀p∈s.2.2.2.2.1,PickLo p
theorem k34_ok{n:Nat}(u:n<=20){Q:List Pick×List Int×Int->Prop}{s:Int×Int×List Int×Int×List Pick×Int×Int×Int}{sid:Sid}(m:IsSid sid)(am:Int×Src)(r:0<=am.1∧am.1<=1048576)(f:Int×Src)(v:0<=f.1∧f.1<3)(t k:Int)(l:List Int)(at_:Int)(out:List Pick)(x y z e:Int)
    (hk:1<=k∧k+out.length<=n) (j:k=s.2.1) (o:0<=t∧t<=2000+1000*(out.length+1)) (i:bt ⟨l,at_⟩) (c:jz 60 ⟨x,y,z⟩) (b:∀p∈out,PickLo p) (he:0<=e∧e<=30000):
    Ok (dM sid am f t k l at_ out x y z e) (Ok.S (PI n) (fun s=>s.2.1.toNat) Q s):=by
  unfold dM
  refine Cs (cK _ _ i om om) (fun g g1=>?_)
  refine Cs (cK _ _ g1.2.2 om om) (fun q g2=>?_)
  refine Cs (Cr (by simp only [AW,AX];omega)) (fun B g3=>?_)
  subst g3
  rw [w64 (n:=e+g.1) om om,w64 (n:=e+g.1+q.1) om om,w64 (n:=f.1-1) om om,w64 (n:=k-1) om om]
  refine DA ⟨⟨za,by simp only [BE,AW,AX];omega⟩,⟨o.1,by simp only [BE,AW,AX];omega⟩,g2.2.2,c,fun p a=>?_⟩ za
  simp only [Bj,Bk]at a
  rcases a with a|rfl
  · exact b p a
  · exact⟨⟨m,za,za,za,za,za,za,za,za⟩,za⟩
theorem l55_ok(pl:ac×Bool)(g:jz 60 pl.1)(x y z t k:Int)(out:List Pick)(E:jz 60 ⟨x,y,z⟩):Ok (mF (jt pl x y z t k out) (0:Int)) (fun o=>o.1=t∧o.2.1=k∧(0<=o.2.2.1∧o.2.2.1<=300)∧o.2.2.2.1=out∧o.2.2.2.2.1=x∧o.2.2.2.2.2.1=y∧o.2.2.2.2.2.2=z):=by
  obtain⟨a1,a2,a3⟩:=g
  obtain⟨c,e,f⟩:=E
  simp only at c e f
  have a:∀(u v:Int), -60<=u->u<=60-> -60<=v->v<=60->∃q,lr (Bw .i64 (u-v))=some q∧0<=q∧q<=14400:=by
    intro u v h1 G H I
    have j: -120<=u-v∧u-v<=120:=by omega
    rw [w64 om om]
    have l:0<=(u-v)*(u-v)∧(u-v)*(u-v)<=14400:=by
      constructor
      · rcases CU 0 (u-v)with h|h
        · exact CX h h
        · exact CY h h
      · rcases CU 0 (u-v)with h|h
        · calc (u-v)*(u-v)<=120*120:=CW j.2 j.2 h om
            _=14400:=by decide
        · have:(u-v)*(u-v)=(v-u)*(v-u):=by
            rw [<-C2];congr 1<;>omega
          rw [this]
          calc (v-u)*(v-u)<=120*120:=CW om om om om
            _=14400:=by decide
    refine⟨_,by unfold lr;rw [w64 om om],l.1,l.2⟩
  obtain⟨m,r,J,u1⟩:=a pl.1.fX x a1.1 a1.2 c.1 c.2
  obtain⟨p,e2,K,u2⟩:=a pl.1.fY y a2.1 a2.2 e.1 e.2
  obtain⟨F,B,L,N⟩:=a pl.1.fZ z a3.1 a3.2 f.1 f.2
  refine Cx (fun s=>0<=s∧s<=300) (fun s=>(300-s).toNat) (fun s b=>?_) ⟨CT _,om⟩
  unfold jt
  rw [r,e2,B]
  simp only [zb]
  rw [w64 (n:=m+p) om om,w64 (n:=m+p+F) om om]
  have D : 0 ≤ s * s ∧ s * s ≤ 90000 := ⟨CX b.1 b.1, by
    calc s*s<=300*300:=CW b.2 b.2 b.1 om
      _=90000:=by decide⟩
  rw [w64 (n:=s*s) om om]
  refine Cy (fun C=>?_) (fun _=>DF ⟨rfl,rfl,b,rfl,rfl,rfl,rfl⟩)
  have i:s<=299:=by
    rcases Int.lt_or_le 299 s with h|h
    · exfalso
      have:s=300:=by omega
      subst this
      omega
    · exact h
  rw [w64 (n:=s+1) om om]
  exact DA ⟨om,om⟩ om
theorem picks_lo(a:ag)(j:BoxOk a.ae.aU∧TabOk a.ae.bj)(v:ah)(D:InvOk v)(n:Nat)(W:n<=20)(d:Src)(z:bt d):
    Ok (jB a v n d) (fun r=>(r.1.length<=n∧∀p∈r.1,PickLo p)∧bt r.2):=by
  unfold jB
  refine Cs (point_ok _ j.1 d z) (fun x1 h1=>?_)
  refine Cs (cK _ _ h1.2 om om) (fun N x=>?_)
  rw [w64 (n:=(n:Int)+1) om om]
  refine Cs (cK _ _ x.2.2 om om) (fun x3 y=>?_)
  rw [w64 (n:=1000+N.1) om om]
  refine Cs (P:=fun o=>(o.1.length<=n∧∀p∈o.1,PickLo p)∧bt ⟨o.2.1,o.2.2⟩) (Cx (PI n) (fun s=>s.2.1.toNat) ?_ ⟨⟨za,by simp only [AX];omega⟩,⟨za,by simp only [AX];omega⟩,y.2.2,h1.1,sm⟩) (fun o g=>DD ⟨g.1,g.2⟩)
  rintro⟨k,Y,s6,s7,s8,s9,K,L⟩ ⟨i0,i1,i2,i3,i4⟩
  simp only at i0 i1 i2 i3 i4
  unfold lK
  refine Cy (fun B=>?_) (fun _=>DF ⟨⟨za,i4⟩,i2⟩)
  refine Cs (cK _ _ i2 om om) (fun y1 g1=>?_)
  refine Cs (source_ok _) (fun y2 g2=>?_)
  refine Cs (cV _ _ g1.2.2 sm sm) (fun f g3=>?_)
  have e:0<=f.1∧f.1<=1048576:=by have:=g3.1;simp at this;omega
  refine Cs (cK _ _ g3.2 om om) (fun i g4=>?_)
  refine Cs (cK _ _ g4.2.2 om om) (fun O g5=>?_)
  refine Cs (cK _ _ g5.2.2 om om) (fun y6 g6=>?_)
  rw [w64 (n:=1000+O.1) om om]
  refine DB (fun _=>?_) (fun _=>DB (fun _=>?_) (fun _=>?_))
  · refine Cs (point_ok _ j.1 _ g6.2.2) (fun t g7=>?_)
    refine Cs (cK _ _ g7.2 om om) (fun u g8=>?_)
    rw [w64 (n:=k+u.1) om om]
    exact k34_ok om g2 f e i ⟨g4.1,g4.2.1⟩ _ _ _ _ _ _ _ _ _ om rfl om g8.2.2 g7.1 i4 om
  · exact k34_ok om g2 f e i ⟨g4.1,g4.2.1⟩ _ _ _ _ _ _ _ _ _ om rfl om g6.2.2 i3 i4 om
  · refine Cs (kplace_ok v D _ _) (fun t g7=>?_)
    refine Cv (fun _=>?_) (fun _=>?_)
    · refine Cs (l55_ok t g7 _ _ _ _ _ _ i3) (fun o g=>?_)
      obtain⟨E,F,q,G,H,I,J⟩:=g
      have c:=j.2
      have T:=c.len
      have C:=c.step
      refine Cs (DC om) (fun u g8=>?_)
      have X:0<=o.2.2.1.tdiv a.ae.bj.aY∧o.2.2.1.tdiv a.ae.bj.aY<=300:=by
        refine⟨C8 q.1 om,?_⟩
        have:=C7 (b:=a.ae.bj.aY) q.1
        omega
      rw [w64 om om]at g8
      subst g8
      rw [w64 (n:=(a.ae.bj.aG.length:Int)-1) om om]
      refine Cs (Cu (by split<;>omega) (by split<;>omega)) (fun m g9=>?_)
      have Q:=c.low m g9.1
      refine Cs (cK _ _ g6.2.2 om om) (fun l g10=>?_)
      rw [E,F,G,H,I,J,w64 (n:=k+m) om om,w64 (n:=k+m+l.1) om om]
      exact k34_ok om g2 f e i ⟨g4.1,g4.2.1⟩ _ _ _ _ _ _ _ _ _ om rfl om g10.2.2 i3 i4 om
    · exact k34_ok om g2 f e i ⟨g4.1,g4.2.1⟩ _ _ _ _ _ _ _ _ _ om rfl om g6.2.2 i3 i4 om
theorem picks_ok(a:ag)(b:BoxOk a.ae.aU∧TabOk a.ae.bj)(v:ah)(g:InvOk v)(n:Nat)(e:n<=20)(d:Src)(c:bt d):
    Ok (jB a v n d) (fun r=>(r.1.length<=n∧∀p∈r.1,PickOk p)∧bt r.2):=(picks_lo a b v g n e d c).mono fun _ h=>⟨⟨h.1.1,fun p f=>(h.1.2 p f).1⟩,h.2⟩
end Go.Dw.Es
set_option maxRecDepth 100000
set_option maxHeartbeats 4000000
namespace Go.Dw.Es
open Go.Dw
theorem lm{α:Type}{l m:List α}{b:Nat}(h:(l.length+m.length)*b<=140737488355328):nK l m b=some (l++m):=by
  unfold nK
  rw [if_pos h]
namespace Sd
abbrev Src:=ak
theorem eq_src(a b:Src):((a.aZ==b.aZ)&&((a.aS==b.aS)&&((a.aO==b.aO)&&((a.bg==b.bg)&&true))))=decide (a=b):=by
  obtain⟨n,t,l,c⟩:=a
  obtain⟨k,t',j,e⟩:=b
  simp only [ak.mk.injEq]
  by_cases f:n=k<;>by_cases e2:t=t'<;>by_cases g:l=j<;>by_cases i:c=e<;>simp [f,e2,g,i]
theorem cmp_str(a b:List UInt8):bW a b=some (pc a b):=by
  unfold bW dW
  simp only [beq_self_eq_true,DL,zb,Ac,if_false]
  unfold pc
  cases h:Op.bytesLess a b with
  |true=>simp
  |false=>by_cases e:a=b<;>simp [e]
theorem mp{l:List Int}{i j:Nat}(b:j=i+1)(hi:i<l.length)(c:l.length<1000)(a:l[i]=0):cJ l i=some (.next (j:Int)):=by
  subst b
  unfold cJ
  rw [if_pos so,mH rfl hi]
  simp only [zb,a,w64 (n:=(i:Int)+1) om om]
  rfl
theorem mq{l:List Int}{i:Nat}(hi:i<l.length)(a:l[i]≠0):cJ l i=some (.stop (.inr l[i])):=by
  unfold cJ
  rw [if_pos so,mH rfl hi]
  simp only [zb]
  rw [if_pos (by simpa using a)]
theorem or_end{l:List Int}{n:Nat}(a:n=l.length):cJ l n=some (.stop (.inl ())):=by
  subst a
  unfold cJ
  rw [if_neg sm]
theorem or4(a b c d:Int):f7 [a,b,c,d]=some (if a≠0 then a else if b≠0 then b else if c≠0 then c else d):=by
  show((mF (cJ [a,b,c,d]) ((0:Nat):Int)).bind _)=_
  by_cases e:a=0
  · rw [mK (mp (i:=0) (j:=1) rfl sm sm (by simpa using e)),if_neg (by simpa using e)]
    by_cases f:b=0
    · rw [mK (mp (i:=1) (j:=2) rfl sm sm (by simpa using f)),if_neg (by simpa using f)]
      by_cases g:c=0
      · rw [mK (mp (i:=2) (j:=3) rfl sm sm (by simpa using g)),if_neg (by simpa using g)]
        by_cases k:d=0
        · rw [mK (mp (i:=3) (j:=4) rfl sm sm (by simpa using k)),mG (or_end (n:=4) rfl)]
          rw [k];rfl
        · rw [mG (mq (i:=3) sm (by simpa using k))];rfl
      · rw [mG (mq (i:=2) sm (by simpa using g)),if_pos g];rfl
    · rw [mG (mq (i:=1) sm (by simpa using f)),if_pos f];rfl
  · rw [mG (mq (i:=0) sm (by simpa using e)),if_pos (by simpa using e)];rfl
def fx(a b:Src):Int:=if pc a.aZ b.aZ≠0 then pc a.aZ b.aZ else if pc a.aS b.aS≠0 then pc a.aS b.aS else if pc a.aO b.aO≠0 then pc a.aO b.aO else pc a.bg b.bg
theorem gO(a b:Src):ed a b=some (fx a b):=by
  unfold ed
  simp only [cmp_str,zb,or4]
  rfl
theorem fy:Tot fx:=(tK.map fun x:Src=>x.aZ).or ((tK.map fun x:Src=>x.aS).or ((tK.map fun x:Src=>x.aO).or (tK.map fun x:Src=>x.bg)))
theorem eJ{a b:Src}(h:fx a b=0):a=b:=by
  unfold fx at h
  obtain⟨n,t,l,c⟩:=a
  obtain⟨i,t',g,j⟩:=b
  simp only at h
  by_cases h1:pc n i=0
  · rw [if_neg (by simpa using h1)]at h
    by_cases e:pc t t'=0
    · rw [if_neg (by simpa using e)]at h
      by_cases f:pc l g=0
      · rw [if_neg (by simpa using f)]at h
        rw [ud]at h h1 e f
        subst h h1 e f;rfl
      · rw [if_pos f]at h;exact(f h).elim
    · rw [if_pos e]at h;exact(e h).elim
  · rw [if_pos h1]at h;exact(h1 h).elim
theorem cmpS_range(a b:Src): -1<=fx a b∧fx a b<=1:=by
  unfold fx
  repeat' split
  all_goals exact ym _ _
instance : DecidableEq Src := fun a b => decidable_of_iff (a.aZ = b.aZ ∧ a.aS = b.aS ∧ a.aO = b.aO ∧ a.bg = b.bg) (by
  obtain⟨n,t,l,c⟩:=a
  obtain⟨g,t',f,e⟩:=b
  simp)
theorem eqs(a b:Src):((a.aZ==b.aZ)&&((a.aS==b.aS)&&((a.aO==b.aO)&&((a.bg==b.bg)&&true))))=decide (a=b):=by
  rw [eq_src]
  exact decide_eq_decide.2 Iff.rfl
theorem cmp_int(a b:Int):ch a b=some (qh a b):=by
  unfold ch fA qh
  simp only [bne_self_eq_false,zb,Ac,if_false]
  by_cases h1:a<b
  · rw [if_pos (decide_eq_true h1),if_pos h1]
  · rw [if_neg (by simpa using h1),if_neg h1]
    by_cases c:a>b
    · rw [if_pos (decide_eq_true c),if_pos c]
    · rw [if_neg (by simpa using c),if_neg c]
theorem or_go{l:List Int}{n:Nat}{r:List Int}(k:l.length<1000)(o:n<=l.length)(c:l.drop n=r):mF (cJ l) (n:Int)=some (match r.find? (fun x=>decide (x≠0))with|some x=>.inr x|none=>.inl ()):=by
  induction r generalizing n with
  |nil=>
    have:n=l.length:=by
      have:=congrArg Ch c
      simp at this;omega
    rw [mG (or_end this)];rfl
  |cons a r m=>
    have b:n<l.length:=by
      have:=congrArg Ch c
      simp at this;omega
    have f:l[n]=a:=by
      rw [Cb b]at c
      exact(List.cons.inj c).1
    have g:l.drop (n+1)=r:=by
      rw [Cb b]at c
      exact(List.cons.inj c).2
    by_cases e:a=0
    · rw [mK (mp (i:=n) (j:=n+1) rfl b k (by rw [f,e])),m om g]
      simp [Cd,e]
    · rw [mG (mq b (by rw [f];exact e)),f]
      simp [Cd,e]
theorem or6(a b c d e f:Int):f7 [a,b,c,d,e,f]=some (if a≠0 then a else if b≠0 then b else if c≠0 then c else if d≠0 then d else if e≠0 then e else f):=by
  unfold f7
  have:=or_go (l:=[a,b,c,d,e,f]) (n:=0) (r:=[a,b,c,d,e,f]) sm sm rfl
  rw [show((0:Int))=((0:Nat):Int)from rfl,this]
  by_cases g:a=0<;>by_cases i:b=0<;>by_cases j:c=0<;>by_cases k:d=0<;>by_cases he:e=0<;>by_cases hf:f=0<;>simp [Cd,g,i,j,k,he,hf]
end Sd
open Sd (fx fy eJ)
def fp(a b:Pick):Int:=if fx a.az b.az≠0 then fx a.az b.az else if qh a.br b.br≠0 then qh a.br b.br else if qh a.bd b.bd≠0 then qh a.bd b.bd else if qh a.bk b.bk≠0 then qh a.bk b.bk else if qh a.aN b.aN≠0 then qh a.aN b.aN else qh a.aT b.aT
theorem gO(a b:Pick):bS a b=some (fp a b):=by
  unfold bS
  simp only [Sd.gO,Sd.cmp_int,zb,Sd.or6]
  rfl
theorem dF:Tot fp:=(fy.map fun x:Pick=>x.az).or ((rR.map fun x:Pick=>x.br).or ((rR.map fun x:Pick=>x.bd).or ((rR.map fun x:Pick=>x.bk).or ((rR.map fun x:Pick=>x.aN).or (rR.map fun x:Pick=>x.aT)))))
theorem kL{a b:Int}(h:(if a≠0 then a else b)=0):a=0∧b=0:=by
  by_cases h1:a=0
  · rw [if_neg (by simpa using h1)]at h;exact⟨h1,h⟩
  · rw [if_pos h1]at h;exact(h1 h).elim
theorem cmpP_zero{a b:Pick}(h:fp a b=0):a=b:=by
  unfold fp at h
  obtain⟨h1,h⟩:=kL h
  obtain⟨c,h⟩:=kL h
  obtain⟨e,h⟩:=kL h
  obtain⟨f,h⟩:=kL h
  obtain⟨g,i⟩:=kL h
  rw [zk]at c e f g i
  have:=eJ h1
  obtain⟨a1,a2,a3,a4,a5,j⟩:=a
  obtain⟨k,l,m,n,o,p⟩:=b
  simp only at*
  subst this c e f g i
  rfl
theorem lt3_eq:lt3 bS=fun x y=>decide (fp x y<0):=by
  funext x y
  unfold lt3
  rw [gO];rfl
theorem Compare_ok:CmpOk bS:=⟨fun x y=>⟨_,gO x y⟩,by rw [lt3_eq];exact dF.swo⟩
instance : DecidableEq Pick := fun a b => decidable_of_iff (a.az = b.az ∧ a.br = b.br ∧ a.bd = b.bd ∧ a.bk = b.bk ∧ a.aN = b.aN ∧ a.aT = b.aT) (by
  obtain⟨a1,a2,a3,a4,a5,c⟩:=a
  obtain⟨e,f,g,i,j,k⟩:=b
  simp)
def eqF(a b:Pick):Bool:=((a.az.aZ==b.az.aZ)&&((a.az.aS==b.az.aS)&&((a.az.aO==b.az.aO)&&((a.az.bg==b.az.bg)&&true))))&&((a.br==b.br)&&((a.bd==b.bd)&&((a.bk==b.bk)&&((a.aN==b.aN)&&((a.aT==b.aT)&&true)))))
theorem eqs(a b:Pick):eqF a b=decide (a=b):=by
  obtain⟨a1,a2,a3,a4,a5,c⟩:=a
  obtain⟨e,f,g,i,j,k⟩:=b
  unfold eqF
  simp only [Sd.eqs,ai.mk.injEq]
  by_cases l:a1=e<;>by_cases e2:a2=f<;>by_cases m:a3=g<;>by_cases n:a4=i<;>by_cases o:a5=j<;>by_cases p:c=k<;>simp [l,e2,m,n,o,p]
theorem Compact_eq(l:List Pick):db l=tL eqF ⟨⟨[],[],[],[]⟩,0,0,0,0,0⟩ l:=by
  have h1:eb=pP eqF:=by funext s d ⟨a,b,c⟩;rfl
  have e:ec=oV eqF ⟨⟨[],[],[],[]⟩,0,0,0,0,0⟩:=by
    funext d s
    unfold ec oV
    rw [h1]
    rfl
  unfold db tL
  rw [e]
  refine ite_congr rfl (fun _=>rfl) fun _=>?_
  refine congrArg _ (funext fun o=>?_)
  rcases o with _|_<;>rfl
theorem sort_at{l:List Pick}(g:l.length<=1000):∃m,sY bS l=some m∧m.Perm l∧m.Pairwise (fun x y=>fp x y<=0):=by
  have f := uS Compare_ok (fun x y h e => by
    rw [lt3_eq]at h e
    simp only [decide_eq_false_iff_not]at h e
    have:=dF.p8 x y
    exact cmpP_zero om) l om
  generalize hm:(l.mergeSort fun x y=> !lt3 bS y x)=m at f
  refine⟨m,f,yK f,?_⟩
  rw [<-hm]
  refine(List.pairwise_mergeSort ?_ ?_ l).imp ?_
  · intro a b c h e
    rw [lt3_eq]at*
    simp only [DK,decide_eq_false_iff_not]at*
    have:=dF.tr a b c (by have:=dF.p8 a b;omega) (by have:=dF.p8 b c;omega)
    have:=dF.p8 a c;omega
  · intro a b
    rw [lt3_eq]
    have:=dF.p8 a b
    by_cases h:fp b a<0
    · have:¬fp a b<0:=by omega
      simp [this]
    · simp [h]
  · intro a b h
    rw [lt3_eq]at h
    simp only [DK,decide_eq_false_iff_not]at h
    have:=dF.p8 a b;omega
theorem Sort_eq{l:List Pick}(e:l.length<=1000):
    ∃r,ie l=some r∧r.Pairwise (fun x y=>fp x y<0)∧(∀x,x∈r↔x∈l)∧r.length<=l.length:=by
  have h1:oU 104 l=some l:=by
    unfold oU
    rw [if_pos om]
  obtain⟨m,b,a,g⟩:=sort_at e
  have f:m.length=l.length:=a.length_eq
  have c:db m=some (cpt m):=by
    rw [Compact_eq]
    exact yn (fun x y=>eqs x y) om
  refine⟨cpt m,?_,qY dF (fun x y=>cmpP_zero) g,fun x=>uV.trans a.mem_iff,by have:=vu m;omega⟩
  unfold ie
  rw [h1,zb,b,zb,c];rfl
theorem lS:∀{r s:List Pick},r.Pairwise (fun x y=>fp x y<0)->s.Pairwise (fun x y=>fp x y<0)->(∀x,x∈r↔x∈s)->r=s
  | [],[],_,_,_=>rfl
  | [],b::s,_,_,h=>by have:=(h b).2 sm;cases this
  |a::r,[],_,_,h=>by have:=(h a).1 sm;cases this
  |a::r,b::s,h1,m,h=>by
    obtain⟨j,n⟩:=List.pairwise_cons.1 h1
    obtain⟨k,o⟩:=List.pairwise_cons.1 m
    have g:a=b:=by
      rcases List.mem_cons.1 ((h a).1 sm)with e|hm
      · exact e
      · rcases List.mem_cons.1 ((h b).2 sm)with e|i
        · exact e.symm
        · have q:=k a hm
          have u:=j b i
          have:=dF.p8 a b
          omega
    subst g
    have l:∀{t:List Pick},(∀y∈t,fp a y<0)->a∉t:=fun h p=>by have:=h a p;have:=dF.refl a;omega
    have:r=s:=lS n o fun x=>by
      have:=h x
      simp only [List.mem_cons]at this
      constructor
      · intro c
        rcases this.1 (.inr c)with e|f
        · subst e;exact(l j c).elim
        · exact f
      · intro c
        rcases this.2 (.inr c)with e|f
        · subst e;exact(l k c).elim
        · exact f
    rw [this]
end Go.Dw.Es
set_option maxRecDepth 100000
set_option maxHeartbeats 4000000
namespace Go.Dw.Es
open Go.Dw Go.Proofs
open Sd (fx fy eJ)
theorem sid_len{x:Sid}(h:Sq.ef x=true):Sq.SidLen x:=by
  obtain⟨h1,a,b,c⟩:=Sq.valid_len h
  exact⟨om,om,om,om⟩
def P(t:Int):Pick:=⟨⟨[65,66],[83,49],[48,48],[66,72,90]⟩,t,t,t,0,0⟩
def S1:Sid:=⟨[65,66],[83,49],[48,48],[66,72,90]⟩
theorem loop_first{α ω:Type}{body:Int->Option (mI Int (Unit⊕ω))}(l:List α){p:α->Bool}{f:Nat->α->ω}
    (h1:∀(i:Nat)(hi:i<l.length),body i=if p l[i]=true then some (.stop (.inr (f i l[i])))else some (.next ((i+1:Nat):Int)))
    (m:body (l.length:Nat)=some (.stop (.inl ()))):
    (mF body (0:Int)=some (.inl ())∧∀x∈l,p x=false)∨
    ∃(i:Nat)(hi:i<l.length),mF body (0:Int)=some (.inr (f i l[i]))∧p l[i]=true∧∀x∈l.take i,p x=false:=by
  have:∀k i,i+k=l.length->(∀x∈l.take i,p x=false)->(mF body (i:Int)=some (.inl ())∧∀x∈l,p x=false)∨
      ∃(j:Nat)(o:j<l.length),mF body (i:Int)=some (.inr (f j l[j]))∧p l[j]=true∧∀x∈l.take j,p x=false:=by
    intro k
    induction k with
    |zero=>
      intro i hi c
      obtain rfl:i=l.length:=by omega
      exact .inl ⟨mG m,by simpa using c⟩
    |succ k n=>
      intro i hi c
      have a:i<l.length:=by omega
      cases g:p l[i]with
      |true=>exact .inr ⟨i,a,mG (by rw [h1 i a,if_pos g]),g,c⟩
      |false=>
        have e:=mK (ω:=Unit⊕ω) (body:=body) (s:=(i:Int)) (s':=((i+1:Nat):Int)) (by rw [h1 i a,if_neg (by simp [g])])
        rw [e]
        refine n (i+1) om fun x b=>?_
        rw [mY a]at b
        rcases List.mem_append.1 b with b|b
        · exact c x b
        · rw [Bk]at b;rw [b];exact g
  have:=this l.length 0 om sm
  simpa using this
theorem lu{α ω:Type}{body:Int->Option (mI Int (Unit⊕ω))}(l:List α){p:α->Bool}{f:α->ω}
    (h1:∀(i:Nat)(hi:i<l.length),body i=if p l[i]=true then some (.stop (.inr (f l[i])))else some (.next ((i+1:Nat):Int)))
    (b:body (l.length:Nat)=some (.stop (.inl ()))):mF body (0:Int)=some (match l.find? p with|none=>.inl ()|some x=>.inr (f x)):=by
  rcases loop_first l (f:=fun _ x=>f x) h1 b with⟨e,h⟩|⟨i,hi,e,c,h⟩
  · rw [e,List.find?_eq_none.2 fun x a=>by simp [h x a]]
  · rw [e]
    have:l.find? p=some l[i]:=by
      refine List.find?_eq_some_iff_append.2 ⟨c,l.take i,l.drop (i+1),?_,fun x a=>by simp [h x a]⟩
      rw [<-Cb hi,List.take_append_drop]
    rw [this]
theorem lv{ω:Type}{body:Int->Option (mI Int (Unit⊕ω))}(n:Nat)(h1:∀i:Nat,i<n->body i=some (.next ((i+1:Nat):Int)))(a:body (n:Nat)=some (.stop (.inl ()))):mF body (0:Int)=some (.inl ()):=by
  have:∀k i:Nat,i+k=n->mF body (i:Int)=some (.inl ()):=by
    intro k
    induction k with
    |zero=>
      intro i hi
      obtain rfl:i=n:=by omega
      exact mG a
    |succ k b=>intro i hi;rw [mK (h1 i om)];exact b (i+1) om
  simpa using this n 0 om
theorem terms_ok{l:List Int}(b:l.length<=1000)(h:∀x∈l, -1048576<=x∧x<=1048576):bI l=some true:=by
  unfold bI ck cB
  rw [lv l.length (fun i hi=>?_) ?_]
  · rfl
  · unfold bB
    rw [if_neg sm]
  · unfold bB
    have a:=h l[i] (Aa hi)
    rw [if_pos so,mH rfl hi,zb]
    unfold dV bA
    rw [if_pos (by simpa using a.1),zb,zb,if_neg (by simpa using a.2),w64 om om]
    simp
def jg(x:au):Prop:=bT x=some true∧(x.bu=2->x.bc=1)∧x.bp.length<=3∧0<=x.bq∧(-1048576<=x.aQ.a0∧x.aQ.a0<=1048576)∧(-1048576<=x.aL.a0∧x.aL.a0<=1048576)
theorem gain_ok{a b:Int}(c:1<=a∧a<=1048576)(e:1<=b∧b<=1048576):jg ⟨0,⟨a,0,0⟩,⟨b,0,0⟩,[],0,0⟩:=by
  refine⟨?_,sm,sm,sm,za,za⟩
  unfold bT bA
  simp [c.1,c.2,e.1,e.2]
theorem section_ok{a b c d e f:Int}(j: -10<=a∧a<=10)(k: -10<=b∧b<=10)(l: -10<=c∧c<=10)(m:1<=d∧d<=10)(he: -10<=e∧e<=10)(hf: -10<=f∧f<=10):jg ⟨1,⟨a,b,c⟩,⟨d,e,f⟩,[],0,0⟩:=by
  refine⟨?_,sm,sm,sm,za,za⟩
  have h1:bI [a,b,c]=some true:=terms_ok sm so
  have g:bI [d,e,f]=some true:=terms_ok sm so
  have i:d≠0:=by omega
  unfold bT
  simp [h1,g,i]
theorem filter_ok{a s:Int}(j:1<=a∧a<=3)(f:0<=s∧s<=3):jg ⟨2,⟨0,0,0⟩,⟨0,0,0⟩,[a,2,1],1,s⟩:=by
  have h1:a=1∨a=2∨a=3:=by omega
  have i:s=0∨s=1∨s=2∨s=3:=by omega
  refine⟨?_,sm,sm,f.1,sm,sm⟩
  have g:bI [a,2,1]=some true:=terms_ok sm so
  have b:bV [a,2,1]=some (a+3):=by
    unfold bV
    rcases h1 with rfl|rfl|rfl
    · rw [qL (n:=4) (o:=4) (by kernel_rfl)];rfl
    · rw [qL (n:=4) (o:=5) (by kernel_rfl)];rfl
    · rw [qL (n:=4) (o:=6) (by kernel_rfl)];rfl
  have c:a+3≠0:=by omega
  have e:0<=s∧s<=3:=by omega
  unfold bT bA
  rw [g,b]
  simp [c,e.1]
  omega
def RespOk(r:aA):Prop:=r.aD.length<=3∧∀x∈r.aD,jg x
theorem responseV(d:Src)(l:bt d):Ok (er d) (fun r=>RespOk r.1∧bt r.2):=by
  unfold er
  refine Cs (cK _ _ l om om) (fun C h1=>?_)
  refine Cs (P:=fun o:List Int×Int×List au=>bt ⟨o.1,o.2.1⟩∧(o.2.2.length<=3∧∀x∈o.2.2,jg x)) (Cx (fun s=>0<=s.1∧s.1+s.2.2.2.length<=3∧(∀x∈s.2.2.2,jg x)∧bt ⟨s.2.1,s.2.2.1⟩) (fun s=>s.1.toNat) ?_ ⟨za,by simp only [AX];omega,sm,h1.2.2⟩) (fun o j=>DD (Q:=fun r:aA×Src=>RespOk r.1∧bt r.2) ⟨j.2,j.1⟩)
  rintro⟨s2,z,B,i⟩ ⟨i0,i1,i2,i3⟩
  simp only at i0 i1 i2 i3
  unfold gP
  have b:∀(x:au),Ok (nK i [x] 96) (fun r=>r=i++[x]):=fun x=>Cr (by simp only [AW,AX];omega)
  have a:∀{x:au},jg x->∀c∈i++[x],jg c:=fun p c g=>by
    simp only [Bj,Bk]at g
    rcases g with g|rfl
    · exact i2 c g
    · exact p
  refine Cy (fun m=>?_) (fun _=>DF ⟨i3,za,i2⟩)
  refine Cs (cK _ _ i3 om om) (fun q g1=>?_)
  refine DB (fun hk=>?_) (fun _=>DB (fun hk=>?_) (fun _=>?_))
  · refine Cs (cV _ _ g1.2.2 sm sm) (fun e g2=>?_)
    refine Cs (cV _ _ g2.2 sm sm) (fun f g3=>?_)
    refine Cs (b _) (fun k g4=>?_)
    subst g4
    have v:0<=e.1∧e.1<=1048575:=by have:=g2.1;simp at this;omega
    have y:0<=f.1∧f.1<=999:=by have:=g3.1;simp at this;omega
    rw [w64 (n:=s2-1) om om,w64 (n:=1+e.1) om om,w64 (n:=1+f.1) om om,hk]
    exact DA ⟨za,by simp only [BE,AW,AX];omega,a (gain_ok om om),g3.2⟩ za
  · refine Cs (cK _ _ g1.2.2 om om) (fun e g2=>?_)
    refine Cs (cK _ _ g2.2.2 om om) (fun f g3=>?_)
    refine Cs (cK _ _ g3.2.2 om om) (fun k g4=>?_)
    refine Cs (cK _ _ g4.2.2 om om) (fun t g5=>?_)
    refine Cs (cK _ _ g5.2.2 om om) (fun D g6=>?_)
    refine Cs (cK _ _ g6.2.2 om om) (fun E g7=>?_)
    refine Cs (b _) (fun u g8=>?_)
    subst g8
    rw [w64 (n:=s2-1) om om,w64 (n:=f.1-3) om om,w64 (n:=k.1-1) om om,w64 (n:=1+t.1) om om,hk]
    exact DA ⟨za,by simp only [BE,AW,AX];omega,a (section_ok om om om om om om),g7.2.2⟩ za
  · refine Cs (cK _ _ g1.2.2 om om) (fun e g2=>?_)
    refine Cs (cK _ _ g2.2.2 om om) (fun f g3=>?_)
    refine Cs (b _) (fun u g8=>?_)
    subst g8
    rw [w64 (n:=s2-1) om om,w64 (n:=1+e.1) om om,show q.1=2 by omega]
    exact DA ⟨za,by simp only [BE,AW,AX];omega,a (filter_ok om om),g3.2.2⟩ za
def RateOk(r:bh):Prop:=r.aL=1∧(r.aQ=100∨r.aQ=50∨r.aQ=51)
structure EpOk(e:al):Prop where
  lo:0<=e.bC
  lt:e.bC<e.fTo
  hi:e.fTo<=10000000
  from_:e.bC<=100000
  rate:RateOk e.cm
  resp:RespOk e.ba
  pos:jz 60 e.aI
structure EpsOk(l:List al):Prop where
  ne:l≠ []
  len:l.length<=3
  all:∀e∈l,EpOk e
  ord:(l.map fun e=>(e.bC,e.fTo)).Pairwise (fun a b=>a.2<=b.1)
  last:∀e,l.getLast?=some e->e.fTo=100000
def ChOk(c:aj):Prop:=IsSid c.az∧EpsOk c.aH
structure InvV(v:ah):Prop where
  len:v.aw.length<=6
  all:∀c∈v.aw,ChOk c
  ord:(v.aw.map (·.az)).Pairwise (fun a b=>fx a b<0)
  net:∀c∈v.aw,c.az.aZ=[65,66]
def sid(i:Nat):Sid:=⟨[65,66],stas.getD i [],[48,48],[66,72,90]⟩
theorem source_at{n:Int}{i:Nat}(a:n=i)(hi:i<6):eU n=some (sid i):=by
  subst a
  have:i=0∨i=1∨i=2∨i=3∨i=4∨i=5:=by omega
  rcases this with rfl|rfl|rfl|rfl|rfl|rfl<;>(show eU _=some _;kernel_rfl)
theorem sid_ok{i:Nat}(hi:i<6):IsSid (sid i):=by
  have:i=0∨i=1∨i=2∨i=3∨i=4∨i=5:=by omega
  rcases this with rfl|rfl|rfl|rfl|rfl|rfl<;>(show Sq.ef _=true;decide+kernel)
theorem sid_lt{i j:Nat}(h:i<j)(b:j<6):fx (sid i) (sid j)<0:=by
  have h1:i=0∨i=1∨i=2∨i=3∨i=4:=by omega
  have a:j=1∨j=2∨j=3∨j=4∨j=5:=by omega
  rcases h1 with rfl|rfl|rfl|rfl|rfl<;>rcases a with rfl|rfl|rfl|rfl|rfl<;>first|omega|decide+kernel
theorem eps1{e:al}(h:EpOk e)(a:e.fTo=100000):EpsOk [e]:=⟨sm,sm,by simpa using h,sm,by simpa using a⟩
theorem eps2{e f:al}(h:EpOk e)(a:EpOk f)(b:e.fTo<=f.bC)(c:f.fTo=100000):EpsOk [e,f]:=⟨sm,sm,by simp;exact⟨h,a⟩,by simpa using b,by simpa using c⟩
def SitesI(s:Int×List Int×Int×List aj):Prop:=∃i:Nat,s.1=i∧i<=6∧s.2.2.2.map (·.az)=(AI i).map sid∧(∀c∈s.2.2.2,EpsOk c.aH∧c.aH.length<=2)∧bt ⟨s.2.1,s.2.2.1⟩
theorem sitesV{n:Int}(d:Src)(C:bt d):Ok (iL n d) (fun r=>(InvV r.1∧∀c∈r.1.aw,c.aH.length<=2)∧bt r.2):=by
  unfold iL
  refine Cs (P:=fun o=>bt ⟨o.1,o.2.1⟩∧InvV ⟨o.2.2⟩∧∀c∈o.2.2,c.aH.length<=2) (Cx SitesI (fun s=>(6-s.1).toNat) ?_ ⟨0,rfl,om,rfl,sm,C⟩) (fun o y=>DD ⟨y.2,y.1⟩)
  rintro⟨s1,s2,G,k⟩ ⟨i,i0,i1,i2,i3,i4⟩
  simp only at i0 i1 i2 i3 i4
  subst i0
  have hlen:k.length=i:=by have:=congrArg Ch i2;simpa using this
  unfold ju
  have f:∀(x:aj),Ok (nK k [x] 88) (fun r=>r=k++[x]):=fun x=>Cr (by simp only [AW,AX];omega)
  have g:InvV ⟨k⟩:=by
    refine⟨za,fun c b=>⟨?_,(i3 c b).1⟩,?_,fun c b=>?_⟩
    · have:c.az∈k.map (·.az):=List.mem_map.2 ⟨c,b,rfl⟩
      rw [i2]at this
      obtain⟨j,v,e⟩:=List.mem_map.1 this
      rw [<-e]
      exact sid_ok (by have:=List.mem_range.1 v;omega)
    · simp only
      rw [i2,List.pairwise_map]
      exact List.pairwise_lt_range.imp_of_mem fun I B u=>sid_lt u (by have:=List.mem_range.1 B;omega)
    · have:c.az∈k.map (·.az):=List.mem_map.2 ⟨c,b,rfl⟩
      rw [i2]at this
      obtain⟨j,v,e⟩:=List.mem_map.1 this
      rw [<-e];rfl
  have a:∀{l:List al}{t:Src},i<6->EpsOk l∧l.length<=2->bt t->Ok (some (.next ((i:Int)+1,t.fL,t.fAt,k++[⟨sid i,l⟩]))) (Ok.S SitesI (fun s=>(6-s.1).toNat) (fun o:List Int×Int×List aj=>bt ⟨o.1,o.2.1⟩∧InvV ⟨o.2.2⟩∧∀c∈o.2.2,c.aH.length<=2) ((i:Int),s2,G,k)):=fun{l t}hi D F=>by
    refine DA ⟨i+1,sm,om,?_,fun c b=>?_,F⟩ za
    · simp [List.range_succ,i2]
    · simp only [Bj,Bk]at b
      rcases b with b|rfl
      · exact i3 c b
      · exact D
  refine Cy (fun E=>?_) (fun _=>DF ⟨i4,g,fun c b=>(i3 c b).2⟩)
  refine Cy (fun _=>?_) (fun _=>DF ⟨i4,g,fun c b=>(i3 c b).2⟩)
  have hi:i<6:=by omega
  refine Cs (kS 60 om om _ i4) (fun J g1=>?_)
  refine Cs (responseV _ g1.2) (fun K g2=>?_)
  rw [source_at rfl hi,zb]
  refine Cs (cK _ _ g2.2 om om) (fun L g4=>?_)
  rw [w64 (n:=(i:Int)+1) om om]
  have q:RateOk ⟨100,1⟩:=⟨rfl,.inl rfl⟩
  refine DB (fun _=>?_) (fun _=>DB (fun _=>?_) (fun _=>?_))
  · refine Cs (cK _ _ g4.2.2 om om) (fun z g5=>?_)
    refine Cs (kS 60 om om _ g5.2.2) (fun N g6=>?_)
    refine Cs (responseV _ g6.2) (fun O g7=>?_)
    refine Cs (DG om sm) (fun _ _=>?_)
    refine Cs (Cz om sm) (fun H g8=>?_)
    obtain⟨x,m,rfl⟩:=g8
    simp at m
    subst m
    refine Cs (Cr sm) (fun Q g9=>?_)
    subst g9
    refine Cs (f _) (fun p g10=>?_)
    subst g10
    rw [w64 (n:=1500+z.1) om om]
    exact a hi ⟨eps2 ⟨sm,za,za,sm,q,g2.1,g1.1⟩ ⟨za,za,sm,za,q,g7.1,g6.1⟩ sm sm,sm⟩ g7.2
  · refine Cs (cK _ _ g4.2.2 om om) (fun z g5=>?_)
    refine Cs (DG om sm) (fun _ _=>?_)
    refine Cs (Cz om sm) (fun H g8=>?_)
    obtain⟨x,m,rfl⟩:=g8
    simp at m
    subst m
    refine Cs (f _) (fun p g10=>?_)
    subst g10
    exact a hi ⟨eps1 ⟨g5.1,za,sm,za,q,g2.1,g1.1⟩ sm,sm⟩ g5.2.2
  · refine Cs (f _) (fun p g10=>?_)
    subst g10
    exact a hi ⟨eps1 ⟨sm,sm,sm,sm,q,g2.1,g1.1⟩ sm,sm⟩ g4.2.2
end Go.Dw.Es
set_option maxRecDepth 100000
set_option maxHeartbeats 4000000
namespace Go.Dw.Es
open Go.Dw Go.Proofs
open Sd (fx fy eJ)
theorem clone_at{α:Type}{n:Nat}{l:List α}(h:l.length*n<=140737488355328):oU n l=some l:=by
  unfold oU;rw [if_pos h]
def fb(r:aA):Prop:=r.aD.length<=1000∧∀x∈r.aD,x.bp.length<=1000
theorem copyEpoch_at{e:al}(h:fb e.ba):dS e=some e:=by
  obtain⟨h1,c⟩:=h
  unfold dS
  rw [clone_at om,zb]
  have:Ok (mF (dZ e.ba.aD) ((0:Int),e.ba.aD)) (fun o=>o=e.ba.aD):=by
    refine Cx (fun s=>0<=s.1∧s.1<=e.ba.aD.length∧s.2=e.ba.aD) (fun s=>((e.ba.aD.length:Int)-s.1).toNat) ?_ ⟨CT _,sm,rfl⟩
    rintro⟨s2,i⟩ ⟨i0,i1,i2⟩
    simp only at i0 i1 i2
    subst i2
    unfold dZ
    dsimp only
    refine Cy (fun f=>?_) (fun _=>DF rfl)
    refine Cs (DG om om) (fun _ _=>?_)
    refine Cs (Cu om om) (fun x a=>?_)
    have:=c x a.1
    rw [clone_at om,zb]
    refine Cs (DG om om) (fun _ _=>?_)
    refine Cs (Cz om om) (fun y g=>?_)
    obtain⟨z,b,rfl⟩:=g
    obtain rfl:x=z:=by rw [a.2]at b;exact Option.some.inj b
    rw [w64 om om]
    refine DA ⟨za,za,?_⟩ za
    obtain⟨hk,e⟩:=List.getElem?_eq_some_iff.1 a.2
    simp only
    conv=>lhs;rw [<-e]
    exact Cj hk
  rw [this.eq];rfl
def ChLen(c:aj):Prop:=c.aH.length<=1000∧∀e∈c.aH,fb e.ba
theorem copied_at{c:aj}(h:ChLen c):fe c=some c:=by
  obtain⟨h1,b⟩:=h
  unfold fe
  rw [clone_at om,zb]
  have:Ok (mF (eT c.aH) ((0:Int),c.aH)) (fun o=>o=c.aH):=by
    refine Cx (fun s=>0<=s.1∧s.1<=c.aH.length∧s.2=c.aH) (fun s=>((c.aH.length:Int)-s.1).toNat) ?_ ⟨CT _,sm,rfl⟩
    rintro⟨s2,i⟩ ⟨i0,i1,i2⟩
    simp only at i0 i1 i2
    subst i2
    unfold eT
    dsimp only
    refine Cy (fun f=>?_) (fun _=>DF rfl)
    refine Cs (DG om om) (fun _ _=>?_)
    refine Cs (Cu om om) (fun x a=>?_)
    rw [copyEpoch_at (b x a.1),zb]
    refine Cs (DG om om) (fun _ _=>?_)
    refine Cs (DE om om) (fun y g=>?_)
    subst g
    rw [w64 om om]
    refine DA ⟨za,za,?_⟩ za
    obtain⟨hk,e⟩:=List.getElem?_eq_some_iff.1 a.2
    simp only
    conv=>lhs;rw [<-e]
    exact Cj hk
  rw [this.eq];rfl
structure InvLen(v:ah):Prop where
  len:v.aw.length<=1000
  all:∀c∈v.aw,ChLen c
theorem InvV.lens{v:ah}(h:InvV v):InvLen v:=by
  refine⟨by have:=h.len;omega,fun c f=>?_⟩
  have a:=(h.all c f).2
  refine⟨by have:=a.len;omega,fun e he=>?_⟩
  have b:=(a.all e he).resp
  exact⟨by have:=b.1;omega,fun x g=>by have:=(b.2 x g).2.2.1;omega⟩
def zCh:aj:=⟨⟨[],[],[],[]⟩,[]⟩
def zEp:al:=⟨0,0,⟨0,0⟩,⟨0,0,0⟩,⟨[]⟩⟩
def chan(v:ah)(s:Sid):Option aj:=v.aw.find? fun c=>decide (c.az=s)
def epIn(l:List al)(t:Int):Option al:=l.find? fun e=>decide (e.bC<=t∧t<e.fTo)
def epAt(v:ah)(s:Sid)(t:Int):Option al:=(chan v s).bind fun c=>epIn c.aH t
theorem Find_eq{v:ah}(a:InvLen v)(s:Sid):gp v s=some (match chan v s with|none=>(zCh,false)|some c=>(c,true)):=by
  have b:=a.len
  unfold gp
  rw [lu v.aw (p:=fun c=>decide (c.az=s)) (f:=fun c=>(c,true)) (fun i hi=>?_) ?_,zb]
  · unfold chan
    cases v.aw.find? fun c=>decide (c.az=s)<;>rfl
  · unfold gq
    rw [if_neg sm]
  · unfold gq
    rw [if_pos so,mH rfl hi,zb,Sd.eqs,copied_at (a.all _ (Aa hi)),zb,w64 om om]
    simp
theorem at_eq{c:aj}(b:c.aH.length<=1000)(t:Int):iG c t=some (match epIn c.aH t with|none=>(zEp,false)|some e=>(e,true)):=by
  unfold iG
  rw [lu c.aH (p:=fun e=>decide (e.bC<=t∧t<e.fTo)) (f:=fun e=>(e,true)) (fun i hi=>?_) ?_,zb]
  · unfold epIn
    cases c.aH.find? fun e=>decide (e.bC<=t∧t<e.fTo)<;>rfl
  · unfold ip
    rw [if_neg sm]
  · unfold ip
    rw [if_pos so,mH rfl hi,zb,w64 om om]
    by_cases h1:c.aH[i].bC<=t<;>by_cases a:t<c.aH[i].fTo<;>simp [h1,a]
theorem chan_mem{v:ah}{s:Sid}{c:aj}(h:chan v s=some c):c∈v.aw∧c.az=s:=by
  unfold chan at h
  exact⟨Ci h,by simpa using Ce h⟩
theorem epIn_mem{l:List al}{t:Int}{e:al}(h:epIn l t=some e):e∈l∧e.bC<=t∧t<e.fTo:=by
  unfold epIn at h
  have:=Ce h
  simp only [decide_eq_true_eq]at this
  exact⟨Ci h,this⟩
theorem At_eq{v:ah}(a:InvLen v)(hV:ci v=some true)(s:Sid)(t:Int):fd v s t=some (match epAt v s t with|none=>(zEp,6)|some e=>(e,0)):=by
  unfold fd
  rw [hV,zb,if_neg sm,Find_eq a,zb]
  unfold epAt
  cases b:chan v s with
  |none=>
    dsimp only
    rw [at_eq (by simp [zCh])]
    rfl
  |some c=>
    dsimp only
    rw [at_eq (a.all c (chan_mem b).1).1,zb,zb]
    cases epIn c.aH t<;>rfl
end Go.Dw.Es
set_option maxRecDepth 100000
set_option maxHeartbeats 4000000
namespace Go.Dw.Es
open Go.Dw
namespace Sd
theorem ref_cmp(a b:List UInt8):dN a b=some (pc a b):=by
  unfold dN pc
  cases h:Op.bytesLess a b with
  |true=>simp
  |false=>by_cases e:a=b<;>simp [e]
theorem gE(a b:Src):fC a b=some (fx a b):=by
  unfold fC fx
  simp only [ref_cmp,zb,bne_iff_ne,ne_eq]
  by_cases h1:pc a.aZ b.aZ=0<;>by_cases c:pc a.aS b.aS=0<;>by_cases e:pc a.aO b.aO=0<;>by_cases f:pc a.bg b.bg=0<;>simp [h1,c,e,f]
end Sd
open Sd (fx fy eJ)
theorem step_int{β:Type}(a b:Int)(k:Option Int):(if(decide (a<b))=true then(some (-1:Int))else(if(decide (a>b))=true then(some (1:Int))else k))=(if qh a b≠0 then some (qh a b)else k):=by
  unfold qh
  by_cases h1:a<b
  · rw [if_pos (decide_eq_true h1)];simp [h1]
  · rw [if_neg (by simpa using h1)]
    by_cases c:a>b
    · rw [if_pos (decide_eq_true c)];simp [h1,c]
    · rw [if_neg (by simpa using c)];simp [h1,c]
theorem some_ite{c:Prop} [Decidable c] (a b:Int):(if c then some a else some b)=some (if c then a else b):=by split<;>rfl
theorem gE(a b:Pick):hM a b=some (fp a b):=by
  unfold hM fp
  rw [Sd.gE,zb]
  have c:((fx a.az b.az != (0:Int))=true)=(fx a.az b.az≠0):=by simp
  simp only [step_int (β:=Unit),c]
  have e:(if qh a.aT b.aT≠0 then some (qh a.aT b.aT)else some 0)=some (qh a.aT b.aT):=by
    by_cases h:qh a.aT b.aT=0<;>simp [h]
  rw [e]
  simp only [some_ite]
end Go.Dw.Es
set_option maxRecDepth 100000
set_option maxHeartbeats 4000000
namespace Go.Dw.Es
namespace Iv
open Go.Dw
abbrev Src:=ak
open Sq
open Sd (fx fy eJ cmpS_range)
theorem loop_upto{ω:Type}{body:Int->Option (mI Int ω)}(n:Nat){q:Nat->Bool}{u:ω}{r:Nat->ω}(h1:∀i,i<n->body i=if q i=true then some (.next ((i+1:Nat):Int))else some (.stop (r i)))
    (c:body (n:Nat)=some (.stop u)):(mF body (0:Int)=some u∧∀i,i<n->q i=true)∨∃i,i<n∧mF body (0:Int)=some (r i)∧q i=false∧∀j,j<i->q j=true:=by
  have:∀k i,i+k=n->(∀j,j<i->q j=true)->(mF body (i:Int)=some u∧∀i,i<n->q i=true)∨∃m,m<n∧mF body (i:Int)=some (r m)∧q m=false∧∀j,j<m->q j=true:=by
    intro k
    induction k with
    |zero=>
      intro i hi a
      obtain rfl:i=n:=by omega
      exact .inl ⟨mG c,a⟩
    |succ k g=>
      intro i hi a
      by_cases b:q i=true
      · rw [mK (by rw [h1 i om,if_pos b])]
        exact g (i+1) om fun j f=>by
          by_cases e:j=i
          · subst e;exact b
          · exact a j om
      · exact .inr ⟨i,om,mG (by rw [h1 i om,if_neg b]),by simpa using b,a⟩
  exact this n 0 om fun j a=>by omega
theorem mn{ω:Type}{body:Int->Option (mI Int ω)}(n:Nat){q:Nat->Bool}{u r:ω}(h1:∀i,i<n->body i=if q i=true then some (.next ((i+1:Nat):Int))else some (.stop r))
    (b:body (n:Nat)=some (.stop u)):mF body (0:Int)=some (if(AI n).all q=true then u else r):=by
  rcases loop_upto n h1 b with⟨h,a⟩|⟨i,hi,h,a, -⟩
  · rw [h,if_pos (List.all_eq_true.2 fun i hi=>a i (List.mem_range.1 hi))]
  · rw [h,if_neg (fun c=>by have:=List.all_eq_true.1 c i (List.mem_range.2 hi);rw [a]at this;cases this)]
theorem fM(b c:Bool):(if b=true then some c else some false)=some (b&&c):=by cases b<;>rfl
theorem ib(b:Bool){α:Type}(x y:α):(if(!b)=true then x else y)=if b=true then y else x:=by cases b<;>rfl
theorem ref_code_l16{s:List UInt8}(a:s.length<=9223372036854775807):mF (gu s) (0:Int)=some (if s.all jY=true then .inl ()else .inr false):=by
  refine loop_list s (fun i hi=>?_) ?_
  · unfold gu
    rw [if_pos so,byteO_at rfl hi,w64 om om]
    simp only [zb,dec1,dec2,dec3,dec4]
    unfold jY
    cases decide (65<=s[i].toNat)<;>cases decide (s[i].toNat<=90)<;>cases decide (48<=s[i].toNat)<;>cases decide (s[i].toNat<=57)<;>simp
  · unfold gu
    rw [if_neg sm]
theorem jp{s:List UInt8}(a:s.length<=9223372036854775807)(lo hi:Int):eW s lo hi=some (fo s lo hi):=by
  unfold eW fo
  rw [ref_code_l16 a]
  cases s.all jY with
  |true=>cases decide ((s.length:Int)>=lo)<;>simp
  |false=>rfl
abbrev bt:=Sq.SidLen
theorem loc_eq(s:List UInt8):(fo s 0 2&&decide (s.length≠1))=(decide (s=[])||fo s 2 2):=by
  unfold fo
  match s with
  | []=>simp
  | [a]=>simp
  | [a,b]=>simp
  |a::b::c::r=>
    have h1:decide (((a::b::c::r).length:Int)<=2)=false:=by simp;omega
    rw [h1];simp
theorem mB{x:Src}(f:bt x):gg x=some (ef x):=by
  obtain⟨h1,a,b,c⟩:=f
  unfold gg ef
  simp only [jp h1,jp a,jp b,jp c,zb]
  rw [<-DI (fo x.aO 0 2),loc_eq]
  by_cases e:x.aO=[]
  · cases fo x.aZ 1 2<;>cases fo x.aS 1 5<;>simp [e]
  · cases fo x.aZ 1 2<;>cases fo x.aS 1 5<;>cases fo x.aO 2 2<;>simp [e]
abbrev Stage:=au
abbrev Resp:=aA
abbrev Epoch:=al
abbrev Chan:=aj
def inB(a lo hi:Int):Bool:=decide (a>=lo)&&decide (a<=hi)
theorem rin_eq(a b c:Int):lx a b c=some (inB a b c):=by unfold lx inB;rw [fM]
theorem pin_eq(a b c:Int):bA a b c=some (inB a b c):=rin_eq a b c
theorem iin_eq(a b c:Int):de a b c=some (inB a b c):=rin_eq a b c
theorem In_eq(a b c:Int):bD a b c=some (inB a b c):=rin_eq a b c
theorem gcd_ok(a b:Int):∃g,jI a b=some g:=by
  obtain ⟨o, h, -⟩ := oY (body := kT) (fun _ => True) (fun s => s.2.natAbs) (fun _ => True) (by
    rintro⟨x,y⟩-
    unfold kT
    by_cases c:y=0
    · exact .inr ⟨x,by simp [c],trivial⟩
    · refine .inl ⟨(y,x.tmod y),?_,trivial,?_⟩
      · have:(y != 0)=true:=by simpa using c
        simp only [this,if_true]
        unfold qQ
        rw [if_neg c];rfl
      · simp only [Int.natAbs_tmod]
        exact Nat.mod_lt _ om) (a,b) trivial
  exact⟨o,by unfold jI;rw [h];rfl⟩
noncomputable def vR (r:bh):Bool:=inB r.aQ 1 4096&&(inB r.aL 1 4096&&((jI r.aQ r.aL).getD 0==1))
theorem vR_eq(r:bh):gW r=some (vR r):=by
  obtain⟨g,a⟩:=gcd_ok r.aQ r.aL
  unfold gW vR
  simp only [rin_eq,zb,a,fM,Cq]
theorem ref_vR_eq(r:bh):kU r=some (vR r):=vR_eq r
def kq(l:List Int):Bool:=l.all fun x=>inB x (-1048576) 1048576
theorem terms_eq{l:List Int}(c:l.length<=4000000000):bI l=some (kq l):=by
  unfold bI ck cB
  have := loop_upto (body := bB l) l.length (q := fun i => inB (l.getD i 0) (-1048576) 1048576) (u := .inl ()) (r := fun i => .inr (i : Int)) (fun i hi => by
    unfold bB dV
    rw [if_pos so,mH rfl hi,w64 om om]
    simp only [zb,pin_eq,Bd,zc hi,Cq,ib]
    rfl) (by
    unfold bB
    rw [if_neg sm])
  rcases this with⟨h,a⟩|⟨i,hi,h,a, -⟩
  · rw [h]
    have:kq l=true:=List.all_eq_true.2 fun x b=>by
      obtain⟨i,hi,rfl⟩:=Cg b
      have:=a i hi
      simpa [Bd,zc hi]using this
    rw [this];rfl
  · rw [h]
    have : kq l = false := List.all_eq_false.2 ⟨l[i], Aa hi, by
      simpa [Bd,zc hi]using a⟩
    rw [this]
    simp only [zb]
    rw [show decide ((i:Int)>=0)=true by simp];rfl
theorem kj{l:List Int}(a:l.length<=4000000000):ei l=some (kq l):=by
  unfold ei
  rw [loop_list (body := gx l) l (p := fun x => inB x (-1048576) 1048576) (u := .inl ()) (r := .inr false) (fun i hi => by
    unfold gx
    rw [if_pos so,mH rfl hi,w64 om om]
    simp only [zb,In_eq,ib]
    rfl) (by
    unfold gx
    rw [if_neg sm])]
  unfold kq
  cases l.all fun x=>inB x (-1048576) 1048576<;>rfl
theorem sum_ok{l:List Int}(c:l.length<=4000000000):∃g,bV l=some g:=by
  obtain ⟨o, h, -⟩ := oY (body := fU l) (fun s => ∃ i : Nat, s.2 = (i : Int) ∧ i ≤ l.length) (fun s => ((l.length : Int) - s.2).toNat) (fun _ => True) (by
    rintro⟨x,y⟩ ⟨i,b,hi⟩
    simp only at b
    subst b
    unfold fU
    by_cases a:i<l.length
    · refine .inl ⟨(Bw .i64 (x+l[i]),((i+1:Nat):Int)),?_,⟨i+1,rfl,om⟩,za⟩
      simp only
      rw [if_pos so,mH rfl a,w64 (n:=(i:Int)+1) om om];rfl
    · exact .inr ⟨x,by simp only;rw [if_neg so],trivial⟩) (0,0) ⟨0,rfl,AL _⟩
  exact⟨o,by unfold bV;rw [h];rfl⟩
noncomputable def sumB (l:List Int):Int:=(bV l).getD 0
theorem sum_eq{l:List Int}(b:l.length<=4000000000):bV l=some (sumB l):=by
  obtain⟨g,a⟩:=sum_ok b
  unfold sumB;rw [a];rfl
theorem ref_sum_eq{l:List Int}(a:l.length<=4000000000):eY l=some (sumB l):=sum_eq a
noncomputable def vS (s:Stage):Bool:=
  if s.bu=0 then decide (s.bp=[])&&(s.bc==0)&&(s.bq==0)&&inB s.aQ.a0 1 1048576&&inB s.aL.a0 1 1048576&&(s.aQ.a1==0)&&(s.aQ.a2==0)&&(s.aL.a1==0)&&(s.aL.a2==0)
  else if s.bu=1 then decide (s.bp=[])&&(s.bc==0)&&(s.bq==0)&&kq [s.aQ.a0,s.aQ.a1,s.aQ.a2]&&kq [s.aL.a0,s.aL.a1,s.aL.a2]&&(s.aL.a0 != 0)
  else if s.bu=2 then(s.aQ.a0==0)&&(s.aQ.a1==0)&&(s.aQ.a2==0)&&(s.aL.a0==0)&&(s.aL.a1==0)&&(s.aL.a2==0)&&inB s.bp.length 1 128&&kq s.bp&&(sumB s.bp != 0)&&inB s.bc 1 64&&inB s.bq 0 40
  else false
theorem len0{α:Type} [DecidableEq α] (l:List α):((l.length:Int)==0)=decide (l=[]):=by
  cases l with
  |nil=>rfl
  |cons a l=>simp;omega
theorem vS_eq{s:Stage}(c:s.bp.length<=4000000000):bT s=some (vS s):=by
  unfold bT vS
  simp only [pin_eq,terms_eq c,terms_eq (l:=[s.aQ.a0,s.aQ.a1,s.aQ.a2]) sm,terms_eq (l:=[s.aL.a0,s.aL.a1,s.aL.a2]) sm,sum_eq c,zb,fM,len0]
  by_cases a:s.bu=0
  · rw [if_pos a]
    simp only [a,beq_self_eq_true,if_true,fM]
    cases decide (s.bp=[])<;>cases s.bc==0<;>simp<;>cases s.bq==0<;>simp [DI,Bool.and_comm,Bool.and_left_comm]
  rw [if_neg a]
  have e:(s.bu==0)=false:=by simpa using a
  by_cases h1:s.bu=1
  · rw [if_pos h1]
    simp only [h1,beq_self_eq_true,if_true,fM]
    cases decide (s.bp=[])<;>cases s.bc==0<;>simp [DI]
  rw [if_neg h1]
  have f:(s.bu==1)=false:=by simpa using h1
  by_cases b:s.bu=2
  · rw [if_pos b]
    simp only [b,beq_self_eq_true,if_true,fM]
    cases decide (s.bp=[])<;>cases s.bc==0<;>simp [DI]
  rw [if_neg b]
  have e2:(s.bu==2)=false:=by simpa using b
  simp only [e,f,e2]
  cases decide (s.bp=[])<;>cases s.bc==0<;>simp
theorem ref_vS_eq{s:Stage}(c:s.bp.length<=4000000000):fh s=some (vS s):=by
  unfold fh vS
  simp only [In_eq,kj c,kj (l:=[s.aQ.a0,s.aQ.a1,s.aQ.a2]) sm,kj (l:=[s.aL.a0,s.aL.a1,s.aL.a2]) sm,ref_sum_eq c,zb,fM,len0]
  by_cases a:s.bu=0
  · rw [if_pos a]
    simp only [a,beq_self_eq_true,if_true,fM]
    cases decide (s.bp=[])<;>cases s.bc==0<;>simp [DI]
  rw [if_neg a]
  have e:(s.bu==0)=false:=by simpa using a
  by_cases h1:s.bu=1
  · rw [if_pos h1]
    simp only [h1,beq_self_eq_true,if_true,fM]
    cases decide (s.bp=[])<;>cases s.bc==0<;>simp [DI]
  rw [if_neg h1]
  have f:(s.bu==1)=false:=by simpa using h1
  by_cases b:s.bu=2
  · rw [if_pos b]
    simp only [b,beq_self_eq_true,if_true,fM]
    cases decide (s.bp=[])<;>cases s.bc==0<;>simp [DI]
  rw [if_neg b]
  have e2:(s.bu==2)=false:=by simpa using b
  simp only [e,f,e2]
  cases decide (s.bp=[])<;>cases s.bc==0<;>simp
def gb:Int->List Stage->Bool
  |_,[]=>true
  |p,s::r=>if s.bu=2 then decide (p*s.bc<=64)&&gb (p*s.bc) r else gb p r
theorem prodOk_cons(p:Int)(s:Stage)(r:List Stage):gb p (s::r)=if s.bu=2 then decide (p*s.bc<=64)&&gb (p*s.bc) r else gb p r:=rfl
noncomputable def vP (r:Resp):Bool:=decide (r.aD.length<=8)&&(r.aD.all vS&&gb 1 r.aD)
def ROk(r:Resp):Prop:=r.aD.length<=4000000000∧∀s∈r.aD,s.bp.length<=4000000000
theorem vS_factor{s:Stage}(h:vS s=true)(hk:s.bu=2):1<=s.bc∧s.bc<=64:=by
  unfold vS at h
  rw [if_neg om,if_neg om,if_pos hk]at h
  simp only [A5,inB,decide_eq_true_eq]at h
  omega
theorem allv_eq{r:Resp}(b:ROk r):bw r.aD=some (!(r.aD.all vS)):=by
  obtain⟨f,c⟩:=b
  generalize r.aD=l at*
  unfold bw ct
  have := loop_upto (body := bz l) l.length (q := fun i => match l[i]? with | some s => vS s | none => true) (u := .inl ()) (r := fun i => .inr (i : Int)) (fun i hi => by
    unfold bz dU
    rw [if_pos so,mH rfl hi,w64 om om]
    simp only [zb,vS_eq (c _ (Aa hi)),zc hi,ib]
    rfl) (by
    unfold bz
    rw [if_neg sm])
  rcases this with⟨h,a⟩|⟨i,hi,h,a, -⟩
  · rw [h]
    have:l.all vS=true:=List.all_eq_true.2 fun x e=>by
      obtain⟨i,hi,rfl⟩:=Cg e
      have:=a i hi
      simpa [zc hi]using this
    rw [this];rfl
  · rw [h]
    have : l.all vS = false := List.all_eq_false.2 ⟨l[i], Aa hi, by
      simpa [zc hi]using a⟩
    rw [this]
    simp only [zb]
    rw [show decide ((i:Int)>=0)=true by simp];rfl
theorem factor_eq{r:Resp}(k:ROk r)(m:r.aD.all vS=true):∃p,dE r.aD=some p∧(decide (p>0)=gb 1 r.aD):=by
  obtain⟨q,t⟩:=k
  generalize r.aD=l at*
  obtain⟨o,h,c⟩:=oY (body:=dy l) (fun s=>∃i:Nat,s.2=(i:Int)∧i<=l.length∧1<=s.1∧s.1<=64∧gb 1 l=gb s.1 (l.drop i)) (fun s=>((l.length:Int)-s.2).toNat)
    (fun o => match o with | .inl y => 0 < y ∧ gb 1 l = true | .inr y => y = 0 ∧ gb 1 l = false) (by
    rintro⟨x,y⟩ ⟨i,j,hi,h1,e,a⟩
    simp only at j h1 e a
    subst j
    unfold dy
    simp only
    by_cases b:i<l.length
    · rw [if_pos so,mH rfl b,zb,w64 (n:=(i:Int)+1) om om]
      rw [Cb b,prodOk_cons]at a
      have g:vS l[i]=true:=List.all_eq_true.1 m _ (Aa b)
      by_cases hk:l[i].bu=2
      · rw [if_neg (by simpa using hk)]
        rw [if_pos hk]at a
        obtain⟨f1,f2⟩:=vS_factor g hk
        have m1:1<=x*l[i].bc:=by have:=CW h1 f1 om om;omega
        have m2:x*l[i].bc<=64*64:=CW e f2 om om
        rw [w64 (n:=x*l[i].bc) om om]
        by_cases f:x*l[i].bc<=64
        · rw [if_neg so]
          refine .inl ⟨_,rfl,⟨i+1,rfl,om,m1,f,?_⟩,za⟩
          rw [a];simp [f]
        · rw [if_pos so]
          refine .inr ⟨_,rfl,rfl,?_⟩
          rw [a];simp [f]
      · rw [if_pos (by simpa using hk)]
        rw [if_neg hk]at a
        exact .inl ⟨_,rfl,⟨i+1,rfl,om,h1,e,a⟩,za⟩
    · rw [if_neg so]
      refine .inr ⟨_,rfl,om,?_⟩
      rw [a,Cc om];rfl) (1,0) ⟨0,rfl,AL _,za,za,rfl⟩
  unfold dE
  rw [h]
  rcases o with y|y
  · exact⟨y,rfl,by rw [c.2];simpa using c.1⟩
  · exact⟨y,rfl,by rw [c.2,c.1];rfl⟩
theorem vP_eq{r:Resp}(b:ROk r):dx r=some (vP r):=by
  unfold dx vP
  by_cases a:r.aD.length<=8
  · rw [if_neg so,allv_eq b,zb]
    cases e:r.aD.all vS with
    |false=>simp
    |true=>
      obtain⟨p,h1,c⟩:=factor_eq b e
      rw [if_neg sm,h1,zb,c];simp [a]
  · rw [if_pos so];simp [a]
theorem ref_vP_eq{r:Resp}(l:ROk r):ig r=some (vP r):=by
  obtain⟨p,m⟩:=l
  obtain⟨o,h,f⟩:=oY (body:=ir r) (fun s=>∃i:Nat,s.2=(i:Int)∧i<=r.aD.length∧1<=s.1∧s.1<=64∧(r.aD.all vS&&gb 1 r.aD)=((r.aD.drop i).all vS&&gb s.1 (r.aD.drop i))) (fun s=>((r.aD.length:Int)-s.2).toNat)
    (fun o => match o with | .inl _ => (r.aD.all vS && gb 1 r.aD) = true | .inr y => y = false ∧ (r.aD.all vS && gb 1 r.aD) = false) (by
    rintro⟨x,y⟩ ⟨i,k,hi,h1,g,a⟩
    simp only at k h1 g a
    subst k
    unfold ir
    simp only
    by_cases b:i<r.aD.length
    · rw [if_pos so,mH rfl b,w64 (n:=(i:Int)+1) om om]
      simp only [zb,ref_vS_eq (m _ (Aa b)),ib]
      rw [Cb b,CB,prodOk_cons]at a
      cases c:vS r.aD[i]with
      |false=>rw [c]at a;exact .inr ⟨.inr false,sm,rfl,by rw [a];rfl⟩
      |true=>
      rw [c,DN]at a
      simp only [if_true]
      by_cases hk:r.aD[i].bu=2
      · rw [if_pos (by simpa using hk)]
        rw [if_pos hk]at a
        obtain⟨f1,f2⟩:=vS_factor c hk
        have m1:1<=x*r.aD[i].bc:=by have:=CW h1 f1 om om;omega
        have m2:x*r.aD[i].bc<=64*64:=CW g f2 om om
        rw [w64 (n:=x*r.aD[i].bc) om om]
        by_cases j:x*r.aD[i].bc<=64
        · rw [if_neg so]
          refine .inl ⟨_,rfl,⟨i+1,rfl,om,m1,j,?_⟩,za⟩
          rw [a];simp [j]
        · rw [if_pos so]
          refine .inr ⟨_,rfl,rfl,?_⟩
          rw [a];simp [j]
      · rw [if_neg (by simpa using hk)]
        rw [if_neg hk]at a
        exact .inl ⟨_,rfl,⟨i+1,rfl,om,h1,g,a⟩,za⟩
    · rw [if_neg so]
      refine .inr ⟨_,rfl,?_⟩
      simp only
      rw [a,Cc om];rfl) (1,0) ⟨0,rfl,AL _,za,za,rfl⟩
  unfold ig vP
  rw [h,zb]
  have e:decide ((r.aD.length:Int)<=8)=decide (r.aD.length<=8):=decide_eq_decide.2 om
  rcases o with y|y
  · simp only at f
    rw [f,e,DJ]
  · rw [f.2,f.1];simp
noncomputable def vE (e:Epoch):Bool:=decide (e.bC>=0)&&(decide (e.bC<e.fTo)&&(decide (e.fTo<=9007199254740992)&&(vR e.cm&&(vP e.ba&&(inB e.aI.fX (-1048576) 1048576&&(inB e.aI.fY (-1048576) 1048576&&inB e.aI.fZ (-16384) 1048576))))))
theorem vE_eq{e:Epoch}(he:ROk e.ba):co e=some (vE e):=by
  unfold co vE
  simp only [vR_eq,vP_eq he,iin_eq,zb,fM]
theorem ref_vE_eq{e:Epoch}(he:ROk e.ba):fi e=some (vE e):=by
  unfold fi vE
  simp only [ref_vR_eq,ref_vP_eq he,In_eq,zb,fM]
def EOk(l:List Epoch):Prop:=l.length<=4000000000∧∀e∈l,ROk e.ba
noncomputable def lh (l:List Epoch) (i:Nat):Bool:=match l[i]? with
  |some e=>vE e&&(decide (i=0)||match l[i-1]? with|some p=>decide (p.fTo<=e.bC)|none=>true)
  |none=>true
noncomputable def vEs (l:List Epoch):Bool:=(AI l.length).all (lh l)&&inB l.length 1 32
theorem stepE_0{l:List Epoch}(h:0<l.length):lh l 0=vE l[0]:=by
  unfold lh;rw [zc h];simp
theorem stepE_s{l:List Epoch}{i:Nat}(h:i+1<l.length):lh l (i+1)=(vE l[i+1]&&decide (l[i].fTo<=l[i+1].bC)):=by
  unfold lh;rw [zc h]
  simp only [Cl,zc (show i<l.length by omega)]
  simp
theorem epochs_loop{l:List Epoch}(a:EOk l):mF (cp l) (0:Int)=some (if(AI l.length).all (lh l)=true then .inl ()else .inr false):=by
  obtain⟨a,b⟩:=a
  refine mn l.length (fun i hi=>?_) ?_
  · unfold cp
    rw [if_pos so,mH rfl hi,w64 (n:=(i:Int)+1) om om]
    simp only [zb,vE_eq (b _ (Aa hi)),ib]
    match i,hi with
    |0,hi=>
      rw [stepE_0 hi,if_neg (c:=decide (((0:Nat):Int)>0)=true) sm];rfl
    |i+1,hi=>
      rw [stepE_s hi,if_pos (c:=decide (((i+1:Nat):Int)>0)=true) (decide_eq_true om),w64 om om,mH (i:=i) om om,zb]
      cases vE l[i+1]with
      |false=>simp
      |true=>
        by_cases h:l[i].fTo<=l[i+1].bC
        · rw [if_neg (c:=decide (l[i+1].bC<l[i].fTo)=true) so];simp [h]
        · rw [if_pos (c:=decide (l[i+1].bC<l[i].fTo)=true) so];simp [h]
  · unfold cp
    rw [if_neg sm]
theorem epochs_eq{l:List Epoch}(a:EOk l):dv l=some (vEs l):=by
  unfold dv vEs
  rw [epochs_loop a,zb]
  cases(AI l.length).all (lh l)with
  |true=>simp only [if_true,iin_eq,zb,DN]
  |false=>rfl
theorem ref_epochs_loop{c:Chan}(a:EOk c.aH)(s:Int):mF (fP c s) (0:Int)=some (if(AI c.aH.length).all (lh c.aH)=true then .inl s else .inr false):=by
  obtain⟨a,b⟩:=a
  refine mn c.aH.length (fun i hi=>?_) ?_
  · unfold fP
    rw [if_pos so,mH rfl hi,w64 (n:=(i:Int)+1) om om]
    simp only [zb,ref_vE_eq (b _ (Aa hi)),ib]
    match i,hi with
    |0,hi=>
      rw [stepE_0 hi,if_neg (c:=decide (((0:Nat):Int)>0)=true) sm];rfl
    |i+1,hi=>
      rw [stepE_s hi,if_pos (c:=decide (((i+1:Nat):Int)>0)=true) (decide_eq_true om),w64 om om,mH (i:=i) om om,zb]
      cases vE c.aH[i+1]with
      |false=>simp
      |true=>
        by_cases h:c.aH[i].fTo<=c.aH[i+1].bC
        · rw [if_neg (c:=decide (c.aH[i+1].bC<c.aH[i].fTo)=true) so];simp [h]
        · rw [if_pos (c:=decide (c.aH[i+1].bC<c.aH[i].fTo)=true) so];simp [h]
  · unfold fP
    rw [if_neg sm]
def COk(c:Chan):Prop:=bt c.az∧EOk c.aH
def IOk(l:List Chan):Prop:=l.length<=4000000000∧∀c∈l,COk c
noncomputable def mD (l:List Chan) (i:Nat):Bool:=match l[i]? with
  |some c=>ef c.az&&vEs c.aH&&(decide (i=0)||match l[i-1]? with|some p=>decide (fx p.az c.az<0)|none=>true)
  |none=>true
noncomputable def vI (l:List Chan):Bool:=(AI l.length).all (mD l)&&decide (l.length<=128)
theorem stepI_0{l:List Chan}(h:0<l.length):mD l 0=(ef l[0].az&&vEs l[0].aH):=by
  unfold mD;rw [zc h];simp
theorem stepI_s{l:List Chan}{i:Nat}(h:i+1<l.length):mD l (i+1)=(ef l[i+1].az&&vEs l[i+1].aH&&decide (fx l[i].az l[i+1].az<0)):=by
  unfold mD;rw [zc h]
  simp only [Cl,zc (show i<l.length by omega)]
  simp
theorem vI_eq{l:List Chan}(b:IOk l):ci ⟨l⟩=some (vI l):=by
  obtain⟨b,a⟩:=b
  unfold ci vI
  rw [mn (body := cA ⟨l⟩) l.length (q := mD l) (u := .inl ()) (r := .inr false) (fun i hi => by
    unfold cA
    simp only
    rw [if_pos so,mH rfl hi,w64 (n:=(i:Int)+1) om om]
    simp only [zb,kJ (a _ (Aa hi)).1,epochs_eq (a _ (Aa hi)).2,Sd.gO,ib]
    match i,hi with
    |0,hi=>
      rw [stepI_0 hi,if_neg (c:=decide (((0:Nat):Int)>0)=true) sm]
      cases ef l[0].az<;>cases vEs l[0].aH<;>simp
    |i+1,hi=>
      rw [stepI_s hi,if_pos (c:=decide (((i+1:Nat):Int)>0)=true) (decide_eq_true om),w64 om om,mH (i:=i) om om]
      simp only [zb]
      cases ef l[i+1].az with
      |false=>simp
      |true=>
        cases vEs l[i+1].aH with
        |false=>simp
        |true=>
          by_cases h:fx l[i].az l[i+1].az<0
          · rw [if_neg (c:=decide (fx l[i].az l[i+1].az>=0)=true) so];simp [h]
          · rw [if_pos (c:=decide (fx l[i].az l[i+1].az>=0)=true) so];simp [h]) (by
    unfold cA
    rw [if_neg sm]),zb]
  have e:decide ((l.length:Int)<=128)=decide (l.length<=128):=decide_eq_decide.2 om
  cases(AI l.length).all (mD l)with
  |true=>simp [e]
  |false=>rfl
theorem ref_vI_eq{l:List Chan}(b:IOk l):gh ⟨l⟩=some (vI l):=by
  obtain⟨b,a⟩:=b
  unfold gh vI
  rw [mn (body := fQ ⟨l⟩) l.length (q := mD l) (u := .inl ()) (r := .inr false) (fun i hi => by
    unfold fQ fO
    simp only
    rw [if_pos so,mH rfl hi]
    simp only [zb,mB (a _ (Aa hi)).1,ref_epochs_loop (a _ (Aa hi)).2,Sd.gE,In_eq,ib]
    have he:∀c:Chan,vEs c.aH=((AI c.aH.length).all (lh c.aH)&&inB c.aH.length 1 32):=fun _=>rfl
    match i,hi with
    |0,hi=>
      rw [stepI_0 hi,if_neg (c:=decide (((0:Nat):Int)>0)=true) sm,he]
      cases ef l[0].az<;>cases inB l[0].aH.length 1 32<;>cases(AI l[0].aH.length).all (lh l[0].aH)<;>simp<;>rfl
    |i+1,hi=>
      rw [stepI_s hi,if_pos (c:=decide (((i+1:Nat):Int)>0)=true) (decide_eq_true om),w64 (n:=((i+1:Nat):Int)-1) om om,mH (i:=i) om om,he]
      have hw:∀j:Int,j=((i+1:Nat):Int)->Bw .i64 (j+1)=((i+1+1:Nat):Int):=fun j f=>by subst f;exact w64 om om
      simp only [zb]
      by_cases h:fx l[i].az l[i+1].az<0
      · rw [if_neg (c:=decide (fx l[i].az l[i+1].az>=0)=true) so]
        cases ef l[i+1].az<;>cases inB l[i+1].aH.length 1 32<;>cases(AI l[i+1].aH.length).all (lh l[i+1].aH)<;>simp only [DN,DJ,Bool.false_and,Bool.and_false,if_true,Ac,if_false,h,decide_true,hw _ rfl]
      · rw [if_pos (c:=decide (fx l[i].az l[i+1].az>=0)=true) so]
        cases ef l[i+1].az<;>simp [h]) (by
    unfold fQ
    rw [if_neg sm]),zb]
  have e:decide ((l.length:Int)<=128)=decide (l.length<=128):=decide_eq_decide.2 om
  cases(AI l.length).all (mD l)with
  |true=>simp [e]
  |false=>rfl
theorem loop_run{σ ω:Type}{body:σ->Option (mI σ ω)}(n:Nat)(st:Nat->σ){r:ω}(h1:∀i,i<n->body (st i)=some (.next (st (i+1))))(a:body (st n)=some (.stop r)):mF body (st 0)=some r:=by
  have:∀k i,i+k=n->mF body (st i)=some r:=by
    intro k
    induction k with
    |zero=>
      intro i hi
      obtain rfl:i=n:=by omega
      exact mG a
    |succ k b=>intro i hi;rw [mK (h1 i om)];exact b (i+1) om
  exact this n 0 om
theorem copy18{r:Resp}(a:ROk r):kb r=some r:=by
  obtain⟨e,b⟩:=a
  have : mF (fG r) ((0 : Int), ([] : List Stage)) = some r.aD := loop_run (body := fG r) r.aD.length (fun i => ((i : Int), r.aD.take i)) (fun i hi => by
    have c:=b _ (Aa hi)
    unfold fG
    simp only
    rw [if_pos (decide_eq_true om),mH rfl hi,zb,lm so,zb,lm so,zb,w64 om om,mY hi]
    rfl) (by
    unfold fG
    simp only
    rw [if_neg sm,Ck])
  unfold kb
  rw [this];rfl
theorem copyE{e:Epoch}(he:ROk e.ba):fN e=some e:=by
  unfold fN
  rw [copy18 he];rfl
theorem copyC{l:List Chan}(a:IOk l){k:Nat}(hk:k<l.length)(s2:List Chan):mF (d6 ⟨l⟩ (k:Int) s2) ((0:Int),([]:List Epoch))=some ((k:Int),s2,l[k].aH):=by
  obtain⟨he,b⟩:=(a.2 _ (Aa hk)).2
  exact loop_run (body := d6 ⟨l⟩ (k : Int) s2) l[k].aH.length (fun i => ((i : Int), l[k].aH.take i)) (fun i hi => by
    unfold d6
    simp only
    rw [mH rfl hk]
    simp only [zb]
    rw [if_pos (decide_eq_true om),mH rfl hi,zb,copyE (b _ (Aa hi)),zb,lm so,zb,w64 om om,mY hi]
    rfl) (by
    unfold d6
    simp only
    rw [mH rfl hk]
    simp only [zb]
    rw [if_neg sm,Ck])
theorem copyI{l:List Chan}(a:IOk l):iY ⟨l⟩=some ⟨l⟩:=by
  have b:=a.1
  have : mF (eZ ⟨l⟩) ((0 : Int), ([] : List Chan)) = some l := loop_run (body := eZ ⟨l⟩) l.length (fun i => ((i : Int), l.take i)) (fun i hi => by
    unfold eZ
    simp only
    rw [if_pos (decide_eq_true om),mH rfl hi,zb,copyC a hi,zb]
    simp only
    rw [lm so,zb,w64 om om,mY hi]
    rfl) (by
    unfold eZ
    simp only
    rw [if_neg sm,Ck])
  unfold iY
  rw [this];rfl
end Iv
end Go.Dw.Es
set_option maxRecDepth 100000
set_option maxHeartbeats 4000000
namespace Go.Dw.Es
open Go.Dw Go.Proofs
open Sd (fx fy eJ)
structure IA(v:ah):Prop where
  len:InvLen v
  src:∀c∈v.aw,Sq.SidLen c.az
theorem fb.rok{r:aA}(h:fb r):Iv.ROk r:=⟨by have:=h.1;omega,fun s a=>by have:=h.2 s a;omega⟩
theorem IA.iok{v:ah}(h:IA v):Iv.IOk v.aw:=
  ⟨by have:=h.len.len;omega,fun c a=>⟨h.src c a,by have:=(h.len.all c a).1;omega,fun e he=>((h.len.all c a).2 e he).rok⟩⟩
theorem val_eq{v:ah}(h:IA v):ci v=some (Iv.vI v.aw):=Iv.vI_eq h.iok
theorem l8{v:ah}(h:IA v):gh v=some (Iv.vI v.aw):=Iv.ref_vI_eq h.iok
theorem InvV.ia{v:ah}(h:InvV v):IA v:=⟨h.lens,fun c a=>sid_len (h.all c a).1⟩
noncomputable def atR (v:ah) (s:Sid) (t:Int):al×Int:=if Iv.vI v.aw=true then(match epAt v s t with|none=>(zEp,6)|some e=>(e,0))else(zEp,1)
theorem At_any{v:ah}(h:IA v)(s:Sid)(t:Int):fd v s t=some (atR v s t):=by
  unfold atR
  cases a:Iv.vI v.aw with
  |true=>
    rw [if_pos rfl,At_eq h.len (by rw [val_eq h,a])]<;>cases epAt v s t<;>rfl
  |false=>
    unfold fd
    rw [val_eq h,a];rfl
theorem refFind_eq{v:ah}(h:IA v)(s:Sid):ke v s=some (match chan v s with|none=>(zCh,false)|some c=>(c,true)):=by
  have g:=h.len.len
  unfold ke
  rw [lu v.aw (p:=fun c=>decide (c.az=s)) (f:=fun c=>(c,true)) (fun i hi=>?_) ?_,zb]
  · unfold chan
    cases v.aw.find? fun c=>decide (c.az=s)<;>rfl
  · unfold jx
    rw [if_neg sm]
  · unfold jx
    have a:(v.aw.drop i).take (i+1-i)=[v.aw[i]]:=by
      rw [Cb hi,show i+1-i=1 by omega];rfl
    have b : iY ⟨[v.aw[i]]⟩ = some ⟨[v.aw[i]]⟩ := Iv.copyI ⟨sm, fun c a => by
      rw [List.mem_singleton.1 a]
      exact h.iok.2 _ (Aa hi)⟩
    rw [if_pos so,mH rfl hi,zb,Sd.eqs,w64 om om,Sq.cutO_at (i:=i) (j:=i+1) rfl sm om om,a,zb,b,zb]
    by_cases e:v.aw[i].az=s
    · rw [if_pos (by simpa using e),if_pos (by simpa using e)];rfl
    · rw [if_neg (by simpa using e),if_neg (by simpa using e)];simp
theorem refAt_any{v:ah}(h:IA v)(s:Sid)(t:Int):jM v s t=some (atR v s t):=by
  unfold atR
  cases j:Iv.vI v.aw with
  |false=>
    unfold jM
    rw [l8 h,j];rfl
  |true=>
    unfold jM
    rw [l8 h,j,zb,if_neg sm,refFind_eq h,zb,if_pos rfl]
    have a:∀(c:aj)(b:Bool),c.aH.length<=1000->mF (iH (c,b) t) (0:Int)=some (match epIn c.aH t with|none=>.inl ()|some e=>.inr (e,0)):=fun c b g=>by
      unfold epIn
      rw [lu c.aH (p:=fun e=>decide (e.bC<=t∧t<e.fTo)) (f:=fun e=>(e,(0:Int))) (fun i hi=>?_) ?_]
      · cases c.aH.find? fun e=>decide (e.bC<=t∧t<e.fTo)<;>rfl
      · unfold iH
        rw [if_neg sm]
      · unfold iH
        dsimp only
        rw [if_pos so,mH rfl hi,zb,zb,zb,w64 om om]
        by_cases h1:c.aH[i].bC<=t<;>by_cases k:t<c.aH[i].fTo<;>simp [h1,k]
    unfold epAt
    cases g:chan v s with
    |none=>
      dsimp only
      rw [a _ _ (by simp [zCh])]
      rfl
    |some c=>
      dsimp only
      rw [a _ _ (h.len.all c (chan_mem g).1).1]
      simp only [zb]
      cases epIn c.aH t<;>rfl
def SLen(p:Pick):Prop:=Sq.SidLen p.az
def vPk(p:Pick):Bool:=Sq.ef p.az&&(decide (0<=p.bd)&&(decide (p.bd<=p.br)&&(decide (p.br<=p.bk)&&(decide (p.bk<=18014398509481984)&&((decide (0<=p.aN)&&decide (p.aN<=1073741823))&&(decide (-1<=p.aT)&&decide (p.aT<=1)))))))
theorem in_eq(a b c:Int):eK a b c=some (decide (b<=a)&&decide (a<=c)):=by
  unfold eK
  by_cases h:b<=a
  · rw [if_pos (by simpa using h),decide_eq_true h];rfl
  · rw [if_neg (by simpa using h),decide_eq_false h];rfl
theorem vp_eq{p:Pick}(h:SLen p):cG p=some (vPk p):=by
  unfold cG vPk
  rw [Sq.kJ h,zb,in_eq,in_eq]
  by_cases a:Sq.ef p.az=true
  rotate_left
  · simp [a]
  by_cases h1:0<=p.bd
  rotate_left
  · simp [a,h1]
  by_cases b:p.bd<=p.br
  rotate_left
  · simp [a,h1,b]
  by_cases c:p.br<=p.bk
  rotate_left
  · simp [a,h1,b,c]
  by_cases e:p.bk<=18014398509481984
  rotate_left
  · simp [a,h1,b,c,e]
  by_cases f:0<=p.aN<;>by_cases g:p.aN<=1073741823<;>simp [a,h1,b,c,e,f,g]
theorem ref_vp_eq{p:Pick}(h:SLen p):fR p=some (vPk p):=by
  rw [<-vp_eq h]
  have e:gg p.az=fm p.az:=by rw [Iv.mB h,Sq.kJ h]
  have e2:∀a b c,bD a b c=eK a b c:=fun a b c=>rfl
  unfold fR cG
  rw [e]
  simp only [e2]
end Go.Dw.Es
