
import Derived.Test.YthkfkgoddhehcaaGreatEfLawRS
import Derived.Test.YthkfkgoddhehcaaGreatDwSortIP
set_option linter.unusedVariables false
set_option linter.unusedSimpArgs false
open List renaming all_cons->G4, append_assoc->ED, append_nil->GW, drop_append_of_le_length->Ho, drop_eq_getElem_cons->HI, drop_eq_nil_of_le->Hp, drop_of_length_le->Hq, drop_zero->G7, filter_append->Hr, foldl_cons->Hs, getD_eq_getElem?_getD->Fx, getElem?_cons_succ->EU, getElem?_set_ne->EX, getElem?_set_self->EY, getElem_drop->Ht, getElem_map->Hu, getElem_mem->FB, getElem_of_mem->HN, getElem_take->Hv, length->HO, length_append->F0, length_cons->EZ, length_drop->FQ, length_filter_le->Hw, length_map->Fh, length_nil->E0, length_set->Hx, length_take->FR, map_append->GL, mem_append->GC, mem_cons->GX, mem_singleton->GD, perm_append_comm->Hy, perm_cons->Hz, range->EH, set_append_right->IC, set_set_perm->ID, take_append_drop->IE, take_append_of_le_length->IF, take_length->IG, take_of_length_le->IH
open Bool renaming and_assoc->II, and_eq_true->E8, and_true->IJ, false_eq_true->FD, not_true->HV, true_and->HX
open Option renaming bind_fun_some->Hm, getD_some->GS
open Go.IntKind renaming wrap->GV
open Nat renaming add_sub_cancel->Hj, eq_zero_or_pos->GY, le_refl->EB, le_trans->EO, min_eq_left->FM, mod_eq_of_lt->Hk, mul_le_mul->IK, pow_le_pow_right->Hl, zero_add->EJ, zero_le->EK
open Int renaming le_ediv_iff_mul_le->Gk, le_of_lt->Gl, le_total->Gn, mul_le_mul->Gr, mul_nonneg->Gs, neg_tdiv->IL, sub_self->IM, tdiv_eq_ediv_of_nonneg->HC, tmod_eq_emod_of_nonneg->IN, zero_add->HH
open Classical renaming byContradiction->Hn
open Go.Dw.Ok renaming app->HY, bind->HZ, cut->IP, eq->H0, get->H2, iteB->H3, loop->H5, nx->H7, quo->H8, ret->H9, set->Ha, st->Hb, tA->Hc, upto->Hd, vg->He, w8->Hg, yw->IQ
open Option.some renaming inj->Fg, injEq->EC

set_option maxRecDepth 100000
set_option maxHeartbeats 4000000
namespace Go.Dw.Ef
namespace Iv
open Go.Dw
abbrev Src:=bn
open Sq
open Sd (lF ke ip cmpS_range)
theorem loop_upto{ω:Type}{body:Int->Option (pH Int ω)}(n:Nat){q:Nat->Bool}{u:ω}{r:Nat->ω}(h1:∀i,i<n->body i=if q i=true then some (.next ((i+1:Nat):Int))else some (.stop (r i)))
    (c:body (n:Nat)=some (.stop u)):(cI body (0:Int)=some u∧∀i,i<n->q i=true)∨∃i,i<n∧cI body (0:Int)=some (r i)∧q i=false∧∀j,j<i->q j=true:=by
  have:∀k i,i+k=n->(∀j,j<i->q j=true)->(cI body (i:Int)=some u∧∀i,i<n->q i=true)∨∃m,m<n∧cI body (i:Int)=some (r m)∧q m=false∧∀j,j<m->q j=true:=by
    intro k
    induction k with
    |zero=>
      intro i hi a
      obtain rfl:i=n:=by omega
      exact .inl ⟨dE c,a⟩
    |succ k g=>
      intro i hi a
      by_cases hp:q i=true
      · rw [tv (by rw [h1 i za,if_pos hp])]
        exact g (i+1) za λj f=>by
          by_cases e:j=i
          · subst e;exact hp
          · exact a j za
      · exact .inr ⟨i,za,dE (by rw [h1 i za,if_neg hp]),by simpa using hp,a⟩
  exact this n 0 za λj a=>by omega
theorem ta{ω:Type}{body:Int->Option (pH Int ω)}(n:Nat){q:Nat->Bool}{u r:ω}(h1:∀i,i<n->body i=if q i=true then some (.next ((i+1:Nat):Int))else some (.stop r))
    (c:body (n:Nat)=some (.stop u)):cI body (0:Int)=some (if(EH n).all q=true then u else r):=by
  rcases loop_upto n h1 c with⟨h,a⟩|⟨i,hi,h,a, -⟩
  · rw [h,if_pos (List.all_eq_true.2 λi hi=>a i (List.mem_range.1 hi))]
  · rw [h,if_neg (λf=>by have:=List.all_eq_true.1 f i (List.mem_range.2 hi);rw [a]at this;cases this)]
theorem l9(b c:Bool):(if b=true then some c else some false)=some (b&&c):=by cases b<;>rfl
theorem nQ(b:Bool){α:Type}(x y:α):(if(!b)=true then x else y)=if b=true then y else x:=by cases b<;>rfl
theorem ref_code_l16{s:List UInt8}(hs:s.length<=9223372036854775807):cI (kw s) (0:Int)=some (if s.all qh=true then .inl ()else .inr false):=by
  refine loop_list s (λi hi=>?_) ?_
  · unfold kw
    rw [if_pos so,byteO_at rfl hi,w64 za za]
    simp only [zd,dec1,dec2,dec3,dec4]
    unfold qh
    cases decide (65<=s[i].toNat)<;>cases decide (s[i].toNat<=90)<;>cases decide (48<=s[i].toNat)<;>cases decide (s[i].toNat<=57)<;>simp
  · unfold kw
    rw [if_neg zb]
theorem pn{s:List UInt8}(hs:s.length<=9223372036854775807)(lo hi:Int):ku s lo hi=some (lD s lo hi):=by
  unfold ku lD
  rw [ref_code_l16 hs]
  cases s.all qh with
  |true=>cases decide ((s.length:Int)>=lo)<;>simp
  |false=>rfl
abbrev cO:=Sq.pY
theorem loc_eq(s:List UInt8):(lD s 0 2&&decide (s.length≠1))=(decide (s=[])||lD s 2 2):=by
  unfold lD
  match s with
  | []=>simp
  | [a]=>simp
  | [a,b]=>simp
  |a::b::c::r=>
    have h1:decide (((a::b::c::r).length:Int)<=2)=false:=by simp;omega
    rw [h1];simp
theorem tl{x:Src}(g:cO x):mw x=some (iT x):=by
  obtain⟨h1,a,c,f⟩:=g
  unfold mw iT
  simp only [pn h1,pn a,pn c,pn f,zd]
  rw [<-II (lD x.bg 0 2),loc_eq]
  by_cases e:x.bg=[]
  · cases lD x.bI 1 2<;>cases lD x.bB 1 5<;>simp [e]
  · cases lD x.bI 1 2<;>cases lD x.bB 1 5<;>cases lD x.bg 2 2<;>simp [e]
abbrev Stage:=bw
abbrev Resp:=bv
abbrev Epoch:=bi
abbrev Chan:=av
def inB(a lo hi:Int):Bool:=decide (a>=lo)&&decide (a<=hi)
theorem rin_eq(a b c:Int):rJ a b c=some (inB a b c):=by unfold rJ inB;rw [l9]
theorem pin_eq(a b c:Int):cX a b c=some (inB a b c):=rin_eq a b c
theorem iin_eq(a b c:Int):fJ a b c=some (inB a b c):=rin_eq a b c
theorem In_eq(a b c:Int):cZ a b c=some (inB a b c):=rin_eq a b c
theorem gcd_ok(a b:Int):∃g,pP a b=some g:=by
  obtain ⟨o, h, -⟩ := wi (body := pf) (λ_ => True) (λs => s.2.natAbs) (λ_ => True) (by
    rintro⟨x,y⟩-
    unfold pf
    by_cases c:y=0
    · exact .inr ⟨x,by simp [c],trivial⟩
    · refine .inl ⟨(y,x.tmod y),?_,trivial,?_⟩
      · have:(y != 0)=true:=by simpa using c
        simp only [this,if_true]
        unfold wO
        rw [if_neg c];rfl
      · simp only [Int.natAbs_tmod]
        exact Nat.mod_lt _ za) (a,b) trivial
  exact⟨o,by unfold pP;rw [h];rfl⟩
noncomputable def vR (r:cd):Bool:=inB r.bR 1 4096&&(inB r.bO 1 4096&&((pP r.bR r.bO).getD 0==1))
theorem vR_eq(r:cd):ni r=some (vR r):=by
  obtain⟨g,a⟩:=gcd_ok r.bR r.bO
  unfold ni vR
  simp only [rin_eq,zd,a,l9,GS]
theorem ref_vR_eq(r:cd):rb r=some (vR r):=vR_eq r
def qF(l:List Int):Bool:=l.all λx=>inB x (-1048576) 1048576
theorem terms_eq{l:List Int}(f:l.length<=4000000000):dm l=some (qF l):=by
  unfold dm ew eX
  have := loop_upto (body := cH l) l.length (q := λi => inB (l.getD i 0) (-1048576) 1048576) (u := .inl ()) (r := λi => .inr (i : Int)) (λi hi => by
    unfold cH il
    rw [if_pos so,kp rfl hi,w64 za za]
    simp only [zd,pin_eq,Fx,ze hi,GS,nQ]
    rfl) (by
    unfold cH
    rw [if_neg zb])
  rcases this with⟨h,a⟩|⟨i,hi,h,a, -⟩
  · rw [h]
    have:qF l=true:=List.all_eq_true.2 λx c=>by
      obtain⟨i,hi,rfl⟩:=HN c
      have:=a i hi
      simpa [Fx,ze hi]using this
    rw [this];rfl
  · rw [h]
    have : qF l = false := List.all_eq_false.2 ⟨l[i], FB hi, by
      simpa [Fx,ze hi]using a⟩
    rw [this]
    simp only [zd]
    rw [show decide ((i:Int)>=0)=true by simp];rfl
theorem qz{l:List Int}(a:l.length<=4000000000):iU l=some (qF l):=by
  unfold iU
  rw [loop_list (body := kx l) l (p := λx => inB x (-1048576) 1048576) (u := .inl ()) (r := .inr false) (λi hi => by
    unfold kx
    rw [if_pos so,kp rfl hi,w64 za za]
    simp only [zd,In_eq,nQ]
    rfl) (by
    unfold kx
    rw [if_neg zb])]
  unfold qF
  cases l.all λx=>inB x (-1048576) 1048576<;>rfl
theorem sum_ok{l:List Int}(f:l.length<=4000000000):∃g,dU l=some g:=by
  obtain ⟨o, h, -⟩ := wi (body := jy l) (λs => ∃ i : Nat, s.2 = (i : Int) ∧ i ≤ l.length) (λs => ((l.length : Int) - s.2).toNat) (λ_ => True) (by
    rintro⟨x,y⟩ ⟨i,c,hi⟩
    simp only at c
    subst c
    unfold jy
    by_cases a:i<l.length
    · refine .inl ⟨(GV .i64 (x+l[i]),((i+1:Nat):Int)),?_,⟨i+1,rfl,za⟩,zc⟩
      simp only
      rw [if_pos so,kp rfl a,w64 (n:=(i:Int)+1) za za];rfl
    · exact .inr ⟨x,by simp only;rw [if_neg so],trivial⟩) (0,0) ⟨0,rfl,EK _⟩
  exact⟨o,by unfold dU;rw [h];rfl⟩
noncomputable def sumB (l:List Int):Int:=(dU l).getD 0
theorem sum_eq{l:List Int}(c:l.length<=4000000000):dU l=some (sumB l):=by
  obtain⟨g,a⟩:=sum_ok c
  unfold sumB;rw [a];rfl
theorem ref_sum_eq{l:List Int}(a:l.length<=4000000000):ky l=some (sumB l):=sum_eq a
noncomputable def vS (s:Stage):Bool:=
  if s.cU=0 then decide (s.cx=[])&&(s.b8==0)&&(s.cM==0)&&inB s.bR.a0 1 1048576&&inB s.bO.a0 1 1048576&&(s.bR.a1==0)&&(s.bR.a2==0)&&(s.bO.a1==0)&&(s.bO.a2==0)
  else if s.cU=1 then decide (s.cx=[])&&(s.b8==0)&&(s.cM==0)&&qF [s.bR.a0,s.bR.a1,s.bR.a2]&&qF [s.bO.a0,s.bO.a1,s.bO.a2]&&(s.bO.a0 != 0)
  else if s.cU=2 then(s.bR.a0==0)&&(s.bR.a1==0)&&(s.bR.a2==0)&&(s.bO.a0==0)&&(s.bO.a1==0)&&(s.bO.a2==0)&&inB s.cx.length 1 128&&qF s.cx&&(sumB s.cx != 0)&&inB s.b8 1 64&&inB s.cM 0 40
  else false
theorem len0{α:Type} [DecidableEq α] (l:List α):((l.length:Int)==0)=decide (l=[]):=by
  cases l with
  |nil=>rfl
  |cons a l=>simp;omega
theorem vS_eq{s:Stage}(f:s.cx.length<=4000000000):dh s=some (vS s):=by
  unfold dh vS
  simp only [pin_eq,terms_eq f,terms_eq (l:=[s.bR.a0,s.bR.a1,s.bR.a2]) zb,terms_eq (l:=[s.bO.a0,s.bO.a1,s.bO.a2]) zb,sum_eq f,zd,l9,len0]
  by_cases a:s.cU=0
  · rw [if_pos a]
    simp only [a,beq_self_eq_true,if_true,l9]
    cases decide (s.cx=[])<;>cases s.b8==0<;>simp<;>cases s.cM==0<;>simp [II,Bool.and_comm,Bool.and_left_comm]
  rw [if_neg a]
  have g:(s.cU==0)=false:=by simpa using a
  by_cases h1:s.cU=1
  · rw [if_pos h1]
    simp only [h1,beq_self_eq_true,if_true,l9]
    cases decide (s.cx=[])<;>cases s.b8==0<;>simp [II]
  rw [if_neg h1]
  have j:(s.cU==1)=false:=by simpa using h1
  by_cases c:s.cU=2
  · rw [if_pos c]
    simp only [c,beq_self_eq_true,if_true,l9]
    cases decide (s.cx=[])<;>cases s.b8==0<;>simp [II]
  rw [if_neg c]
  have e2:(s.cU==2)=false:=by simpa using c
  simp only [g,j,e2]
  cases decide (s.cx=[])<;>cases s.b8==0<;>simp
theorem ref_vS_eq{s:Stage}(f:s.cx.length<=4000000000):iA s=some (vS s):=by
  unfold iA vS
  simp only [In_eq,qz f,qz (l:=[s.bR.a0,s.bR.a1,s.bR.a2]) zb,qz (l:=[s.bO.a0,s.bO.a1,s.bO.a2]) zb,ref_sum_eq f,zd,l9,len0]
  by_cases a:s.cU=0
  · rw [if_pos a]
    simp only [a,beq_self_eq_true,if_true,l9]
    cases decide (s.cx=[])<;>cases s.b8==0<;>simp [II]
  rw [if_neg a]
  have g:(s.cU==0)=false:=by simpa using a
  by_cases h1:s.cU=1
  · rw [if_pos h1]
    simp only [h1,beq_self_eq_true,if_true,l9]
    cases decide (s.cx=[])<;>cases s.b8==0<;>simp [II]
  rw [if_neg h1]
  have j:(s.cU==1)=false:=by simpa using h1
  by_cases c:s.cU=2
  · rw [if_pos c]
    simp only [c,beq_self_eq_true,if_true,l9]
    cases decide (s.cx=[])<;>cases s.b8==0<;>simp [II]
  rw [if_neg c]
  have e2:(s.cU==2)=false:=by simpa using c
  simp only [g,j,e2]
  cases decide (s.cx=[])<;>cases s.b8==0<;>simp
def mo:Int->List Stage->Bool
  |_,[]=>true
  |p,s::r=>if s.cU=2 then decide (p*s.b8<=64)&&mo (p*s.b8) r else mo p r
theorem prodOk_cons(p:Int)(s:Stage)(r:List Stage):mo p (s::r)=if s.cU=2 then decide (p*s.b8<=64)&&mo (p*s.b8) r else mo p r:=rfl
noncomputable def vP (r:Resp):Bool:=decide (r.bJ.length<=8)&&(r.bJ.all vS&&mo 1 r.bJ)
def ROk(r:Resp):Prop:=r.bJ.length<=4000000000∧∀s∈r.bJ,s.cx.length<=4000000000
theorem vS_factor{s:Stage}(h:vS s=true)(hk:s.cU=2):1<=s.b8∧s.b8<=64:=by
  unfold vS at h
  rw [if_neg za,if_neg za,if_pos hk]at h
  simp only [E8,inB,decide_eq_true_eq]at h
  omega
theorem allv_eq{r:Resp}(c:ROk r):cS r.bJ=some (!(r.bJ.all vS)):=by
  obtain⟨j,f⟩:=c
  generalize r.bJ=l at*
  unfold cS eI
  have := loop_upto (body := cw l) l.length (q := λi => match l[i]? with | some s => vS s | none => true) (u := .inl ()) (r := λi => .inr (i : Int)) (λi hi => by
    unfold cw ik
    rw [if_pos so,kp rfl hi,w64 za za]
    simp only [zd,vS_eq (f _ (FB hi)),ze hi,nQ]
    rfl) (by
    unfold cw
    rw [if_neg zb])
  rcases this with⟨h,a⟩|⟨i,hi,h,a, -⟩
  · rw [h]
    have:l.all vS=true:=List.all_eq_true.2 λx g=>by
      obtain⟨i,hi,rfl⟩:=HN g
      have:=a i hi
      simpa [ze hi]using this
    rw [this];rfl
  · rw [h]
    have : l.all vS = false := List.all_eq_false.2 ⟨l[i], FB hi, by
      simpa [ze hi]using a⟩
    rw [this]
    simp only [zd]
    rw [show decide ((i:Int)>=0)=true by simp];rfl
theorem factor_eq{r:Resp}(q:ROk r)(t:r.bJ.all vS=true):∃p,gx r.bJ=some p∧(decide (p>0)=mo 1 r.bJ):=by
  obtain⟨u,z⟩:=q
  generalize r.bJ=l at*
  obtain⟨o,h,f⟩:=wi (body:=fd l) (λs=>∃i:Nat,s.2=(i:Int)∧i<=l.length∧1<=s.1∧s.1<=64∧mo 1 l=mo s.1 (l.drop i)) (λs=>((l.length:Int)-s.2).toNat)
    (λo => match o with | .inl y => 0 < y ∧ mo 1 l = true | .inr y => y = 0 ∧ mo 1 l = false) (by
    rintro⟨x,y⟩ ⟨i,k,hi,h1,g,a⟩
    simp only at k h1 g a
    subst k
    unfold fd
    simp only
    by_cases c:i<l.length
    · rw [if_pos so,kp rfl c,zd,w64 (n:=(i:Int)+1) za za]
      rw [HI c,prodOk_cons]at a
      have j:vS l[i]=true:=List.all_eq_true.1 t _ (FB c)
      by_cases hk:l[i].cU=2
      · rw [if_neg (by simpa using hk)]
        rw [if_pos hk]at a
        obtain⟨f1,f2⟩:=vS_factor j hk
        have m1:1<=x*l[i].b8:=by have:=Gr h1 f1 za za;omega
        have m2:x*l[i].b8<=64*64:=Gr g f2 za za
        rw [w64 (n:=x*l[i].b8) za za]
        by_cases hp:x*l[i].b8<=64
        · rw [if_neg so]
          refine .inl ⟨_,rfl,⟨i+1,rfl,za,m1,hp,?_⟩,zc⟩
          rw [a];simp [hp]
        · rw [if_pos so]
          refine .inr ⟨_,rfl,rfl,?_⟩
          rw [a];simp [hp]
      · rw [if_pos (by simpa using hk)]
        rw [if_neg hk]at a
        exact .inl ⟨_,rfl,⟨i+1,rfl,za,h1,g,a⟩,zc⟩
    · rw [if_neg so]
      refine .inr ⟨_,rfl,za,?_⟩
      rw [a,Hp za];rfl) (1,0) ⟨0,rfl,EK _,zc,zc,rfl⟩
  unfold gx
  rw [h]
  rcases o with y|y
  · exact⟨y,rfl,by rw [f.2];simpa using f.1⟩
  · exact⟨y,rfl,by rw [f.2,f.1];rfl⟩
theorem vP_eq{r:Resp}(c:ROk r):gf r=some (vP r):=by
  unfold gf vP
  by_cases a:r.bJ.length<=8
  · rw [if_neg so,allv_eq c,zd]
    cases g:r.bJ.all vS with
    |false=>simp
    |true=>
      obtain⟨p,h1,f⟩:=factor_eq c g
      rw [if_neg zb,h1,zd,f];simp [a]
  · rw [if_pos so];simp [a]
theorem ref_vP_eq{r:Resp}(l:ROk r):nT r=some (vP r):=by
  obtain⟨q,p⟩:=l
  obtain⟨o,h,g⟩:=wi (body:=ma r) (λs=>∃i:Nat,s.2=(i:Int)∧i<=r.bJ.length∧1<=s.1∧s.1<=64∧(r.bJ.all vS&&mo 1 r.bJ)=((r.bJ.drop i).all vS&&mo s.1 (r.bJ.drop i))) (λs=>((r.bJ.length:Int)-s.2).toNat)
    (λo => match o with | .inl _ => (r.bJ.all vS && mo 1 r.bJ) = true | .inr y => y = false ∧ (r.bJ.all vS && mo 1 r.bJ) = false) (by
    rintro⟨x,y⟩ ⟨i,k,hi,h1,j,a⟩
    simp only at k h1 j a
    subst k
    unfold ma
    simp only
    by_cases c:i<r.bJ.length
    · rw [if_pos so,kp rfl c,w64 (n:=(i:Int)+1) za za]
      simp only [zd,ref_vS_eq (p _ (FB c)),nQ]
      rw [HI c,G4,prodOk_cons]at a
      cases f:vS r.bJ[i]with
      |false=>rw [f]at a;exact .inr ⟨.inr false,zb,rfl,by rw [a];rfl⟩
      |true=>
      rw [f,HX]at a
      simp only [if_true]
      by_cases hk:r.bJ[i].cU=2
      · rw [if_pos (by simpa using hk)]
        rw [if_pos hk]at a
        obtain⟨f1,f2⟩:=vS_factor f hk
        have m1:1<=x*r.bJ[i].b8:=by have:=Gr h1 f1 za za;omega
        have m2:x*r.bJ[i].b8<=64*64:=Gr j f2 za za
        rw [w64 (n:=x*r.bJ[i].b8) za za]
        by_cases hp:x*r.bJ[i].b8<=64
        · rw [if_neg so]
          refine .inl ⟨_,rfl,⟨i+1,rfl,za,m1,hp,?_⟩,zc⟩
          rw [a];simp [hp]
        · rw [if_pos so]
          refine .inr ⟨_,rfl,rfl,?_⟩
          rw [a];simp [hp]
      · rw [if_neg (by simpa using hk)]
        rw [if_neg hk]at a
        exact .inl ⟨_,rfl,⟨i+1,rfl,za,h1,j,a⟩,zc⟩
    · rw [if_neg so]
      refine .inr ⟨_,rfl,?_⟩
      simp only
      rw [a,Hp za];rfl) (1,0) ⟨0,rfl,EK _,zc,zc,rfl⟩
  unfold nT vP
  rw [h,zd]
  have e:decide ((r.bJ.length:Int)<=8)=decide (r.bJ.length<=8):=decide_eq_decide.2 za
  rcases o with y|y
  · simp only at g
    rw [g,e,IJ]
  · rw [g.2,g.1];simp
noncomputable def vE (e:Epoch):Bool:=decide (e.ck>=0)&&(decide (e.ck<e.fTo)&&(decide (e.fTo<=9007199254740992)&&(vR e.nP&&(vP e.b7&&(inB e.bW.fX (-1048576) 1048576&&(inB e.bW.fY (-1048576) 1048576&&inB e.bW.fZ (-16384) 1048576))))))
theorem vE_eq{e:Epoch}(he:ROk e.b7):eD e=some (vE e):=by
  unfold eD vE
  simp only [vR_eq,vP_eq he,iin_eq,zd,l9]
theorem ref_vE_eq{e:Epoch}(he:ROk e.b7):lp e=some (vE e):=by
  unfold lp vE
  simp only [ref_vR_eq,ref_vP_eq he,In_eq,zd,l9]
def EOk(l:List Epoch):Prop:=l.length<=4000000000∧∀e∈l,ROk e.b7
noncomputable def rq (l:List Epoch) (i:Nat):Bool:=match l[i]? with
  |some e=>vE e&&(decide (i=0)||match l[i-1]? with|some p=>decide (p.fTo<=e.ck)|none=>true)
  |none=>true
noncomputable def vEs (l:List Epoch):Bool:=(EH l.length).all (rq l)&&inB l.length 1 32
theorem stepE_0{l:List Epoch}(h:0<l.length):rq l 0=vE l[0]:=by
  unfold rq;rw [ze h];simp
theorem stepE_s{l:List Epoch}{i:Nat}(h:i+1<l.length):rq l (i+1)=(vE l[i+1]&&decide (l[i].fTo<=l[i+1].ck)):=by
  unfold rq;rw [ze h]
  simp only [Hj,ze (show i<l.length by omega)]
  simp
theorem epochs_loop{l:List Epoch}(a:EOk l):cI (dX l) (0:Int)=some (if(EH l.length).all (rq l)=true then .inl ()else .inr false):=by
  obtain⟨a,f⟩:=a
  refine ta l.length (λi hi=>?_) ?_
  · unfold dX
    rw [if_pos so,kp rfl hi,w64 (n:=(i:Int)+1) za za]
    simp only [zd,vE_eq (f _ (FB hi)),nQ]
    match i,hi with
    |0,hi=>
      rw [stepE_0 hi,if_neg (c:=decide (((0:Nat):Int)>0)=true) zb];rfl
    |i+1,hi=>
      rw [stepE_s hi,if_pos (c:=decide (((i+1:Nat):Int)>0)=true) (decide_eq_true za),w64 za za,kp (i:=i) za za,zd]
      cases vE l[i+1]with
      |false=>simp
      |true=>
        by_cases h:l[i].fTo<=l[i+1].ck
        · rw [if_neg (c:=decide (l[i+1].ck<l[i].fTo)=true) so];simp [h]
        · rw [if_pos (c:=decide (l[i+1].ck<l[i].fTo)=true) so];simp [h]
  · unfold dX
    rw [if_neg zb]
theorem epochs_eq{l:List Epoch}(a:EOk l):fU l=some (vEs l):=by
  unfold fU vEs
  rw [epochs_loop a,zd]
  cases(EH l.length).all (rq l)with
  |true=>simp only [if_true,iin_eq,zd,HX]
  |false=>rfl
theorem ref_epochs_loop{c:Chan}(a:EOk c.bF)(s:Int):cI (jv c s) (0:Int)=some (if(EH c.bF.length).all (rq c.bF)=true then .inl s else .inr false):=by
  obtain⟨a,f⟩:=a
  refine ta c.bF.length (λi hi=>?_) ?_
  · unfold jv
    rw [if_pos so,kp rfl hi,w64 (n:=(i:Int)+1) za za]
    simp only [zd,ref_vE_eq (f _ (FB hi)),nQ]
    match i,hi with
    |0,hi=>
      rw [stepE_0 hi,if_neg (c:=decide (((0:Nat):Int)>0)=true) zb];rfl
    |i+1,hi=>
      rw [stepE_s hi,if_pos (c:=decide (((i+1:Nat):Int)>0)=true) (decide_eq_true za),w64 za za,kp (i:=i) za za,zd]
      cases vE c.bF[i+1]with
      |false=>simp
      |true=>
        by_cases h:c.bF[i].fTo<=c.bF[i+1].ck
        · rw [if_neg (c:=decide (c.bF[i+1].ck<c.bF[i].fTo)=true) so];simp [h]
        · rw [if_pos (c:=decide (c.bF[i+1].ck<c.bF[i].fTo)=true) so];simp [h]
  · unfold jv
    rw [if_neg zb]
def COk(c:Chan):Prop:=cO c.az∧EOk c.bF
def IOk(l:List Chan):Prop:=l.length<=4000000000∧∀c∈l,COk c
noncomputable def tp (l:List Chan) (i:Nat):Bool:=match l[i]? with
  |some c=>iT c.az&&vEs c.bF&&(decide (i=0)||match l[i-1]? with|some p=>decide (lF p.az c.az<0)|none=>true)
  |none=>true
noncomputable def vI (l:List Chan):Bool:=(EH l.length).all (tp l)&&decide (l.length<=128)
theorem stepI_0{l:List Chan}(h:0<l.length):tp l 0=(iT l[0].az&&vEs l[0].bF):=by
  unfold tp;rw [ze h];simp
theorem stepI_s{l:List Chan}{i:Nat}(h:i+1<l.length):tp l (i+1)=(iT l[i+1].az&&vEs l[i+1].bF&&decide (lF l[i].az l[i+1].az<0)):=by
  unfold tp;rw [ze h]
  simp only [Hj,ze (show i<l.length by omega)]
  simp
theorem vI_eq{l:List Chan}(a:IOk l):dJ ⟨l⟩=some (vI l):=by
  obtain⟨a,hc⟩:=a
  unfold dJ vI
  rw [ta (body := ef ⟨l⟩) l.length (q := tp l) (u := .inl ()) (r := .inr false) (λi hi => by
    unfold ef
    simp only
    rw [if_pos so,kp rfl hi,w64 (n:=(i:Int)+1) za za]
    simp only [zd,qO (hc _ (FB hi)).1,epochs_eq (hc _ (FB hi)).2,Sd.mh,nQ]
    match i,hi with
    |0,hi=>
      rw [stepI_0 hi,if_neg (c:=decide (((0:Nat):Int)>0)=true) zb]
      cases iT l[0].az<;>cases vEs l[0].bF<;>simp
    |i+1,hi=>
      rw [stepI_s hi,if_pos (c:=decide (((i+1:Nat):Int)>0)=true) (decide_eq_true za),w64 za za,kp (i:=i) za za]
      simp only [zd]
      cases iT l[i+1].az with
      |false=>simp
      |true=>
        cases vEs l[i+1].bF with
        |false=>simp
        |true=>
          by_cases h:lF l[i].az l[i+1].az<0
          · rw [if_neg (c:=decide (lF l[i].az l[i+1].az>=0)=true) so];simp [h]
          · rw [if_pos (c:=decide (lF l[i].az l[i+1].az>=0)=true) so];simp [h]) (by
    unfold ef
    rw [if_neg zb]),zd]
  have e:decide ((l.length:Int)<=128)=decide (l.length<=128):=decide_eq_decide.2 za
  cases(EH l.length).all (tp l)with
  |true=>simp [e]
  |false=>rfl
theorem ref_vI_eq{l:List Chan}(a:IOk l):gL ⟨l⟩=some (vI l):=by
  obtain⟨a,hc⟩:=a
  unfold gL vI
  rw [ta (body := jw ⟨l⟩) l.length (q := tp l) (u := .inl ()) (r := .inr false) (λi hi => by
    unfold jw n7
    simp only
    rw [if_pos so,kp rfl hi]
    simp only [zd,tl (hc _ (FB hi)).1,ref_epochs_loop (hc _ (FB hi)).2,Sd.kU,In_eq,nQ]
    have he:∀c:Chan,vEs c.bF=((EH c.bF.length).all (rq c.bF)&&inB c.bF.length 1 32):=λ_=>rfl
    match i,hi with
    |0,hi=>
      rw [stepI_0 hi,if_neg (c:=decide (((0:Nat):Int)>0)=true) zb,he]
      cases iT l[0].az<;>cases inB l[0].bF.length 1 32<;>cases(EH l[0].bF.length).all (rq l[0].bF)<;>simp<;>rfl
    |i+1,hi=>
      rw [stepI_s hi,if_pos (c:=decide (((i+1:Nat):Int)>0)=true) (decide_eq_true za),w64 (n:=((i+1:Nat):Int)-1) za za,kp (i:=i) za za,he]
      have hw:∀j:Int,j=((i+1:Nat):Int)->GV .i64 (j+1)=((i+1+1:Nat):Int):=λj f=>by subst f;exact w64 za za
      simp only [zd]
      by_cases h:lF l[i].az l[i+1].az<0
      · rw [if_neg (c:=decide (lF l[i].az l[i+1].az>=0)=true) so]
        cases iT l[i+1].az<;>cases inB l[i+1].bF.length 1 32<;>cases(EH l[i+1].bF.length).all (rq l[i+1].bF)<;>simp only [HX,IJ,Bool.false_and,Bool.and_false,if_true,FD,if_false,h,decide_true,hw _ rfl]
      · rw [if_pos (c:=decide (lF l[i].az l[i+1].az>=0)=true) so]
        cases iT l[i+1].az<;>simp [h]) (by
    unfold jw
    rw [if_neg zb]),zd]
  have e:decide ((l.length:Int)<=128)=decide (l.length<=128):=decide_eq_decide.2 za
  cases(EH l.length).all (tp l)with
  |true=>simp [e]
  |false=>rfl
theorem loop_run{σ ω:Type}{body:σ->Option (pH σ ω)}(n:Nat)(st:Nat->σ){r:ω}(h1:∀i,i<n->body (st i)=some (.next (st (i+1))))(a:body (st n)=some (.stop r)):cI body (st 0)=some r:=by
  have:∀k i,i+k=n->cI body (st i)=some r:=by
    intro k
    induction k with
    |zero=>
      intro i hi
      obtain rfl:i=n:=by omega
      exact dE a
    |succ k c=>intro i hi;rw [tv (h1 i za)];exact c (i+1) za
  exact this n 0 za
theorem modO_at{α:Type}{l:List α}{n:Int}{i:Nat}{f:α->α}(a:n=i)(hi:i<l.length):yh l n f=some (l.set i (f l[i])):=by
  subst a
  unfold yh
  rw [if_pos za,Int.toNat_natCast,ze hi]
theorem copy18{r:Resp}(a:ROk r):qk r=some r:=by
  obtain⟨g,c⟩:=a
  have : cI (jG r) ((0 : Int), ([] : List Stage)) = some r.bJ := loop_run (body := jG r) r.bJ.length (λi => ((i : Int), r.bJ.take i)) (λi hi => by
    have f:=c _ (FB hi)
    unfold jG
    simp only
    rw [if_pos (decide_eq_true za),kp rfl hi,zd,cu so,zd,cu so,zd,w64 za za,tD hi]
    rfl) (by
    unfold jG
    simp only
    rw [if_neg zb,IG])
  unfold qk
  rw [this];rfl
theorem copyE{e:Epoch}(he:ROk e.b7):mb e=some e:=by
  unfold mb
  rw [copy18 he];rfl
theorem copyC{l:List Chan}(a:IOk l){k:Nat}(hk:k<l.length)(s2:List Chan):cI (iB ⟨l⟩ (k:Int) s2) ((0:Int),([]:List Epoch))=some ((k:Int),s2,l[k].bF):=by
  obtain⟨he,c⟩:=(a.2 _ (FB hk)).2
  exact loop_run (body := iB ⟨l⟩ (k : Int) s2) l[k].bF.length (λi => ((i : Int), l[k].bF.take i)) (λi hi => by
    unfold iB
    simp only
    rw [kp rfl hk]
    simp only [zd]
    rw [if_pos (decide_eq_true za),kp rfl hi,zd,copyE (c _ (FB hi)),zd,cu so,zd,w64 za za,tD hi]
    rfl) (by
    unfold iB
    simp only
    rw [kp rfl hk]
    simp only [zd]
    rw [if_neg zb,IG])
theorem copyI{l:List Chan}(a:IOk l):oM ⟨l⟩=some ⟨l⟩:=by
  have c:=a.1
  have : cI (iC ⟨l⟩) ((0 : Int), ([] : List Chan)) = some l := loop_run (body := iC ⟨l⟩) l.length (λi => ((i : Int), l.take i)) (λi hi => by
    unfold iC
    simp only
    rw [if_pos (decide_eq_true za),kp rfl hi,zd,copyC a hi,zd]
    simp only
    rw [cu so,zd,w64 za za,tD hi]
    rfl) (by
    unfold iC
    simp only
    rw [if_neg zb,IG])
  unfold oM
  rw [this];rfl
end Iv
end Go.Dw.Ef
set_option maxRecDepth 100000
set_option maxHeartbeats 4000000
namespace Go.Dw.Ef
open Go.Dw Go.Proofs
open Sd (lF ke ip)
structure IA(v:ag):Prop where
  len:InvLen v
  src:∀c∈v.bp,Sq.pY c.az
theorem iZ.rok{r:bv}(h:iZ r):Iv.ROk r:=⟨by have:=h.1;omega,λs hs=>by have:=h.2 s hs;omega⟩
theorem IA.iok{v:ag}(h:IA v):Iv.IOk v.bp:=
  ⟨by have:=h.len.len;omega,λc hc=>⟨h.src c hc,by have:=(h.len.all c hc).1;omega,λe he=>((h.len.all c hc).2 e he).rok⟩⟩
theorem sr{v:ag}(h:IA v):dJ v=some (Iv.vI v.bp):=Iv.vI_eq h.iok
theorem np{v:ag}(h:IA v):gL v=some (Iv.vI v.bp):=Iv.ref_vI_eq h.iok
theorem InvV.ia{v:ag}(h:InvV v):IA v:=⟨h.lens,λc hc=>sid_len (h.all c hc).1⟩
noncomputable def atR (v:ag) (s:Sid) (t:Int):bi×Int:=if Iv.vI v.bp=true then(match epAt v s t with|none=>(zEp,6)|some e=>(e,0))else(zEp,1)
theorem At_any{v:ag}(h:IA v)(s:Sid)(t:Int):lg v s t=some (atR v s t):=by
  unfold atR
  cases a:Iv.vI v.bp with
  |true=>
    rw [if_pos rfl,At_eq h.len (by rw [sr h,a])]<;>cases epAt v s t<;>rfl
  |false=>
    unfold lg
    rw [sr h,a];rfl
theorem refFind_eq{v:ag}(h:IA v)(s:Sid):qo v s=some (match sh v s with|none=>(zCh,false)|some c=>(c,true)):=by
  have g:=h.len.len
  unfold qo
  rw [rF v.bp (p:=λc=>decide (c.az=s)) (f:=λc=>(c,true)) (λi hi=>?_) ?_,zd]
  · unfold sh
    cases v.bp.find? λc=>decide (c.az=s)<;>rfl
  · unfold nE
    rw [if_neg zb]
  · unfold nE
    have hc:(v.bp.drop i).take (i+1-i)=[v.bp[i]]:=by
      rw [HI hi,show i+1-i=1 by omega];rfl
    have a : oM ⟨[v.bp[i]]⟩ = some ⟨[v.bp[i]]⟩ := Iv.copyI ⟨zb, λc hc => by
      rw [List.mem_singleton.1 hc]
      exact h.iok.2 _ (FB hi)⟩
    rw [if_pos so,kp rfl hi,zd,Sd.eqs,w64 za za,Sq.cutO_at (i:=i) (j:=i+1) rfl zb za za,hc,zd,a,zd]
    by_cases e:v.bp[i].az=s
    · rw [if_pos (by simpa using e),if_pos (by simpa using e)];rfl
    · rw [if_neg (by simpa using e),if_neg (by simpa using e)];simp
theorem refAt_any{v:ag}(h:IA v)(s:Sid)(t:Int):pR v s t=some (atR v s t):=by
  unfold atR
  cases g:Iv.vI v.bp with
  |false=>
    unfold pR
    rw [np h,g];rfl
  |true=>
    unfold pR
    rw [np h,g,zd,if_neg zb,refFind_eq h,zd,if_pos rfl]
    have a:∀(c:av)(b:Bool),c.bF.length<=1000->cI (mT (c,b) t) (0:Int)=some (match epIn c.bF t with|none=>.inl ()|some e=>.inr (e,0)):=λc b hc=>by
      unfold epIn
      rw [rF c.bF (p:=λe=>decide (e.ck<=t∧t<e.fTo)) (f:=λe=>(e,(0:Int))) (λi hi=>?_) ?_]
      · cases c.bF.find? λe=>decide (e.ck<=t∧t<e.fTo)<;>rfl
      · unfold mT
        rw [if_neg zb]
      · unfold mT
        dsimp only
        rw [if_pos so,kp rfl hi,zd,zd,zd,w64 za za]
        by_cases h1:c.bF[i].ck<=t<;>by_cases j:t<c.bF[i].fTo<;>simp [h1,j]
    unfold epAt
    cases hc:sh v s with
    |none=>
      dsimp only
      rw [a _ _ (by simp [zCh])]
      rfl
    |some c=>
      dsimp only
      rw [a _ _ (h.len.all c (chan_mem hc).1).1]
      simp only [zd]
      cases epIn c.bF t<;>rfl
def su(p:Pick):Prop:=Sq.pY p.az
def vPk(p:Pick):Bool:=Sq.iT p.az&&(decide (0<=p.bA)&&(decide (p.bA<=p.bS)&&(decide (p.bS<=p.bY)&&(decide (p.bY<=18014398509481984)&&((decide (0<=p.bG)&&decide (p.bG<=1073741823))&&(decide (-1<=p.bM)&&decide (p.bM<=1)))))))
theorem in_eq(a b c:Int):jA a b c=some (decide (b<=a)&&decide (a<=c)):=by
  unfold jA
  by_cases h:b<=a
  · rw [if_pos (by simpa using h),decide_eq_true h];rfl
  · rw [if_neg (by simpa using h),decide_eq_false h];rfl
theorem vp_eq{p:Pick}(h:su p):fb p=some (vPk p):=by
  unfold fb vPk
  rw [Sq.qO h,zd,in_eq,in_eq]
  by_cases a:Sq.iT p.az=true
  rotate_left
  · simp [a]
  by_cases h1:0<=p.bA
  rotate_left
  · simp [a,h1]
  by_cases c:p.bA<=p.bS
  rotate_left
  · simp [a,h1,c]
  by_cases f:p.bS<=p.bY
  rotate_left
  · simp [a,h1,c,f]
  by_cases g:p.bY<=18014398509481984
  rotate_left
  · simp [a,h1,c,f,g]
  by_cases j:0<=p.bG<;>by_cases k:p.bG<=1073741823<;>simp [a,h1,c,f,g,j,k]
theorem ref_vp_eq{p:Pick}(h:su p):mc p=some (vPk p):=by
  rw [<-vp_eq h]
  have f:mw p.az=lB p.az:=by rw [Iv.tl h,Sq.qO h]
  have e2:∀a b c,cZ a b c=jA a b c:=λa b c=>rfl
  unfold mc fb
  rw [f]
  simp only [e2]
end Go.Dw.Ef
set_option maxRecDepth 100000
set_option maxHeartbeats 4000000
namespace Go.Dw.Ef
open Go.Dw Go.Proofs
theorem len_uniq{n a b:Int}(f:Len n a)(g:Len n b):a=b:=by
  obtain⟨a,rfl,a1, -,a2,a3⟩:=f
  obtain⟨b,rfl,b1, -,b2,c⟩:=g
  have k:∀x y:Nat,1<=x->(2:Int) ^ (x-1)<=n->n<2 ^ y->x<=y:=λx y l h1 j=>by
    apply Hn
    intro h
    have:(2:Int) ^ y<=2 ^ (x-1):=by
      have:=Hl (show 0<2 by decide) (show y<=x-1 by omega)
      exact_mod_cast this
    omega
  have:=k a b a1 a2 c
  have:=k b a b1 b2 a3
  omega
theorem rdigits_ok{n:Int}(h1:1<=n)(h:n<=9223372036854775807):Ok (lw n) (Len n):=by
  unfold lw
  rw [Hm]
  refine H5 (λs:Int×Int=>∃k:Nat,s=(n / 2 ^ k,(k:Int))∧k<=63∧(1<=k->(2:Int) ^ (k-1)<=n)) (λs=>s.1.toNat) ?_ ⟨0,zb,za,za⟩
  rintro s ⟨k,rfl,p,j⟩
  have hp:(0:Int)<2 ^ k:=Int.pow_pos (by decide)
  unfold n9
  dsimp only
  have c:0<=n / 2 ^ k:=Int.ediv_nonneg za (Gl hp)
  refine Hc (λg=>?_) (λhle=>Hb ?_)
  · have hk:k<=62:=by
      apply Hn
      intro hc
      obtain rfl:k=63:=by omega
      have f:(2:Int) ^ 63=9223372036854775808:=by decide
      have:n / 2 ^ 63=0:=Int.ediv_eq_zero_of_lt za za
      omega
    rw [shr1 c,w64 (n:=(k:Int)+1) za za]
    have e:n / 2 ^ k / 2=n / 2 ^ (k+1):=by rw [Int.pow_succ,Int.ediv_ediv_of_nonneg (Gl hp)]
    refine H7 ⟨k+1,by rw [e];rfl,za,λ_=>?_⟩ zc
    have:1*2 ^ k<=n:=(Gk hp).1 za
    simp only [Hj];omega
  · have l:n / 2 ^ k=0:=by omega
    have a:n<2 ^ k:=by
      apply Hn
      intro hc
      have:1<=n / 2 ^ k:=(Gk hp).2 za
      omega
    have hk:1<=k:=by
      rcases GY k with rfl|h
      · simp at a;omega
      · exact h
    exact⟨k,rfl,hk,za,j hk,a⟩
theorem digits_eq{n:Int}(h1:1<=n)(h:n<=9223372036854775807):∃l:Nat,nN n=some (l:Int)∧lw n=some (l:Int)∧1<=l∧l<=63∧(2:Int) ^ (l-1)<=n∧n<2 ^ l:=by
  obtain⟨a,a1,a2⟩:=bits_at h1 za
  obtain⟨b,b1,b2⟩:=rdigits_ok h1 h
  rw [len_uniq b2 a2]at b1
  obtain⟨l,rfl,c,j,f,g⟩:=a2
  refine⟨l,a1,b1,c,?_,f,g⟩
  apply Hn
  intro hc
  obtain rfl:l=64:=by omega
  have:(2:Int) ^ (64-1)=9223372036854775808:=by decide
  omega
theorem dig17{c m d:Int}(hc: -1<=c∧c<=63)(a:0<=d∧d<=255):Ok (dY c m d) (λr=> -256<=r∧r<=16400):=by
  unfold dY
  rw [w64 (n:=256*c) za za,w64 za za]
  exact H9 ⟨za,za⟩
theorem dig20{c m d:Int}(hc: -1<=c∧c<=63)(a:0<=d∧d<=127):Ok (dq c m d) (λr=> -256<=r∧r<=16400):=by
  unfold dq
  rw [w64 (n:=d*2) za za,w64 (n:=d*2+1) za za]
  exact Hc (λ_=>HZ (H8 za) (λ_ _=>dig17 hc za)) (λ_=>dig17 hc za)
theorem dig23{c m d:Int}(hc: -1<=c∧c<=63)(a:0<=d∧d<=63):Ok (du c m d) (λr=> -256<=r∧r<=16400):=by
  unfold du
  rw [w64 (n:=d*2) za za,w64 (n:=d*2+1) za za]
  exact Hc (λ_=>HZ (H8 za) (λ_ _=>dig20 hc za)) (λ_=>dig20 hc za)
theorem dig26{c m d:Int}(hc: -1<=c∧c<=63)(a:0<=d∧d<=31):Ok (dv c m d) (λr=> -256<=r∧r<=16400):=by
  unfold dv
  rw [w64 (n:=d*2) za za,w64 (n:=d*2+1) za za]
  exact Hc (λ_=>HZ (H8 za) (λ_ _=>dig23 hc za)) (λ_=>dig23 hc za)
theorem dig29{c m d:Int}(hc: -1<=c∧c<=63)(a:0<=d∧d<=15):Ok (dw c m d) (λr=> -256<=r∧r<=16400):=by
  unfold dw
  rw [w64 (n:=d*2) za za,w64 (n:=d*2+1) za za]
  exact Hc (λ_=>HZ (H8 za) (λ_ _=>dig26 hc za)) (λ_=>dig26 hc za)
theorem dig32{c m d:Int}(hc: -1<=c∧c<=63)(a:0<=d∧d<=7):Ok (dx c m d) (λr=> -256<=r∧r<=16400):=by
  unfold dx
  rw [w64 (n:=d*2) za za,w64 (n:=d*2+1) za za]
  exact Hc (λ_=>HZ (H8 za) (λ_ _=>dig29 hc za)) (λ_=>dig29 hc za)
theorem dig35{c m d:Int}(hc: -1<=c∧c<=63)(a:0<=d∧d<=3):Ok (dy c m d) (λr=> -256<=r∧r<=16400):=by
  unfold dy
  rw [w64 (n:=d*2) za za,w64 (n:=d*2+1) za za]
  exact Hc (λ_=>HZ (H8 za) (λ_ _=>dig32 hc za)) (λ_=>dig32 hc za)
theorem dig38{c m d:Int}(hc: -1<=c∧c<=63)(a:0<=d∧d<=1):Ok (dz c m d) (λr=> -256<=r∧r<=16400):=by
  unfold dz
  rw [w64 (n:=d*2) za za,w64 (n:=d*2+1) za za]
  exact Hc (λ_=>HZ (H8 za) (λ_ _=>dig35 hc za)) (λ_=>dig35 hc za)
theorem digits_ok{c m:Int}(hc: -1<=c∧c<=63):Ok (d7 c m) (λr=> -256<=r∧r<=16400):=by
  unfold d7
  exact Hc (λ_=>HZ (H8 za) (λ_ _=>dig38 hc za)) (λ_=>dig38 hc za)
theorem nD_in{m d:Int}{k:Int}(hk:0<=k∧k<=1000)(a:0<=d∧d<=k):0<=nD m d∧nD m d<=2*k+1:=by
  unfold nD
  rw [w64 (n:=d*2) za za,w64 (n:=d*2+1) za za]
  split<;>omega
theorem digD(m:Int):Ok (cI dM (m,(0:Int),(0:Int))) (λd=>0<=d∧d<=255):=by
  have h:∀(i:Nat),i<8->∀m d:Int,cI dM (m,d,(i:Int))=cI dM (nM m,nD m d,((i+1:Nat):Int)):=λi hi m d=>tv (lstep hi)
  have j:((0:Nat):Int)=0:=rfl
  have a:=h 0 (by decide) m 0
  rw [j]at a
  rw [a,h 1 (by decide),h 2 (by decide),h 3 (by decide),h 4 (by decide),h 5 (by decide),h 6 (by decide),h 7 (by decide),dE (o:=nD _ _) (by unfold dM;rfl)]
  have a1:=nD_in (m:=m) (d:=0) (k:=0) za za
  have a2:=nD_in (m:=nM m) (k:=1) za a1
  have a3:=nD_in (m:=nM (nM m)) (k:=3) za a2
  have a4:=nD_in (m:=nM (nM (nM m))) (k:=7) za a3
  have a5:=nD_in (m:=nM (nM (nM (nM m)))) (k:=15) za a4
  have c:=nD_in (m:=nM (nM (nM (nM (nM m))))) (k:=31) za a5
  have f:=nD_in (m:=nM (nM (nM (nM (nM (nM m)))))) (k:=63) za c
  have g:=nD_in (m:=nM (nM (nM (nM (nM (nM (nM m))))))) (k:=127) za f
  exact⟨_,rfl,g⟩
theorem digits_D(m:Int):∃d:Int,(0<=d∧d<=255)∧∀c:Int, -1<=c∧c<=2000->d7 c m=some (256*c+d):=by
  obtain⟨r,a, -⟩:=digits_ok (c:=0) (m:=m) za
  rw [<-rr]at a
  unfold iW at a
  cases e:cI dM (m,(0:Int),(0:Int))with
  |none=>rw [e]at a;cases a
  |some d=>
    have f:0<=d∧d<=255:=by
      have:=digD m
      rw [e]at this
      obtain⟨x,g,h⟩:=this
      rw [Fg g];exact h
    refine⟨d,f,λc hc=>?_⟩
    rw [<-rr]
    unfold iW
    rw [e,zd,w64 (n:=256*c) za za,w64 za za]
theorem log_eq(n:Int)(h:n<=9223372036854775807):∃r,fP n=some r∧oz n=some r∧ -256<=r.1∧r.1<=16400∧(1<=n->r.2=0):=by
  unfold fP oz
  by_cases h1:n<1
  · simp only [h1,decide_true,if_true];exact⟨_,rfl,rfl,zb,zb,λh=>za⟩
  simp only [h1,decide_false,FD,if_false]
  obtain⟨l,f,e2,g,j,k,p⟩:=digits_eq (n:=n) za h
  have hw:GV .u64 n=n:=IntWalk.u64_in _ za
  rw [hw,f,e2,zd,zd,w64 (n:=(l:Int)-1) za za]
  by_cases c:(l:Int)-1<=30
  · simp only [c,decide_true,if_true]
    rw [w64 (n:=30-((l:Int)-1)) za za,IntWalk.u64_in (30-((l:Int)-1)) za]
    have e:yI .i64 n (30-((l:Int)-1))=some (xG .i64 n (30-((l:Int)-1))):=by unfold yI;rw [if_neg za]
    obtain⟨d,⟨d0,d1⟩,a⟩:=digits_D (xG .i64 n (30-((l:Int)-1)))
    rw [e,zd,zd,rr,a _ za,zd]
    exact⟨_,rfl,rfl,zc,zc,λ_=>rfl⟩
  · simp only [c,decide_false,FD,if_false]
    rw [w64 (n:=(l:Int)-1-30) za za,IntWalk.u64_in ((l:Int)-1-30) za]
    have e:BC .i64 n ((l:Int)-1-30)=some (tU .i64 n ((l:Int)-1-30)):=by unfold BC;rw [if_neg za]
    obtain⟨d,⟨d0,d1⟩,a⟩:=digits_D (tU .i64 n ((l:Int)-1-30))
    rw [e,zd,zd,rr,a _ za,zd]
    exact⟨_,rfl,rfl,zc,zc,λ_=>rfl⟩
theorem or_gen(m b:Nat)(c:b<2 ^ 30)(h:2 ^ 30*m+b<4611686018427387904):orI .i64 (xG .i64 (m:Int) 30) (b:Int)=1073741824*m+b:=by
  have f:=Nat.two_pow_add_eq_or_of_lt (i:=30) (b:=b) c m
  have hs:xG .i64 (m:Int) 30=((2 ^ 30*m:Nat):Int):=by
    unfold xG
    show GV .i64 ((m:Int)*1073741824)=_
    rw [w64 za za];omega
  rw [hs]
  generalize g:2 ^ 30*m=A at*
  unfold orI
  show GV .i64 (((BitVec.ofInt 64 _ ||| BitVec.ofInt 64 _).toNat:Nat):Int)=_
  rw [BitVec.ofInt_natCast,BitVec.ofInt_natCast,BitVec.toNat_or,BitVec.toNat_ofNat,BitVec.toNat_ofNat,Hk (a:=A) za,Hk (a:=b) za,show(A ||| b)=A+b by omega]
  rw [w64 za za];omega
theorem logNat_eq{l:List Int}(B:vN l=true)(E:l≠ []):∃r,e8 l=some r∧mX l=some r∧ -1000<=r.1∧r.1<=600000∧r.2=0:=by
  obtain⟨v1,v2,v3⟩:=oX.1 B
  have hp:0<l.length:=List.length_pos_iff.2 E
  have g:=v3.get v2 hp
  unfold e8 mX
  rw [nv_eq za,ro za,B]
  simp only [zd,HV,FD,if_false]
  rw [w64 (n:=(l.length:Int)-1) za za]
  have g0:¬(l.length:Int)-1<0:=by omega
  have g1:((l.length:Int)==0)=false:=by simp;omega
  simp only [g0,g1,decide_false,FD,if_false]
  rw [ib za]at g
  have d1:=v2.get (k:=l.length-1) za
  by_cases h1:l.length=1
  · have g2:((l.length:Int)-1==0)=true:=by simp;omega
    have g3:(l.length:Int)<=2:=by omega
    simp only [g2,g3,decide_true,if_true]
    obtain⟨r,a,u,I,J,x⟩:=log_eq l[l.length-1] za
    have p:cY l ((0:Int),(l.length:Int)-1)=some (.next (l[l.length-1], -1)):=by
      unfold cY
      dsimp only
      rw [if_pos so,kp (i:=l.length-1) za za,zd,w64 za za]
      have:orI .i64 (xG .i64 (0:Int) 30) l[l.length-1]=l[l.length-1]:=by
        obtain⟨b,f⟩:∃b:Nat,l[l.length-1]=b:=⟨l[l.length-1].toNat,za⟩
        rw [f]
        have:=or_gen 0 b za za
        simpa using this
      rw [this]
      congr 3;omega
    have e2:cY l (l[l.length-1], -1)=some (.stop l[l.length-1]):=by
      unfold cY
      rfl
    rw [kp (l:=l) (n:=0) (i:=l.length-1) za za,tv p,dE e2]
    simp only [zd,a,u]
    exact⟨_,rfl,rfl,zc,zc,x za⟩
  · have g2:((l.length:Int)-1==0)=false:=by simp;omega
    simp only [g2,FD,if_false]
    have d2:=v2.get (k:=l.length-2) za
    rw [w64 (n:=(l.length:Int)-1-1) za za,w64 (n:=7680*((l.length:Int)-1-1)) za za,kp (n:=(l.length:Int)-1) (i:=l.length-1) za za,zd,kp (n:=(l.length:Int)-1-1) (i:=l.length-2) za za,zd]
    have c:orI .i64 (xG .i64 l[l.length-1] 30) l[l.length-2]=1073741824*l[l.length-1]+l[l.length-2]:=by
      obtain⟨m,hm⟩:∃m:Nat,l[l.length-1]=m:=⟨l[l.length-1].toNat,za⟩
      obtain⟨b,f⟩:∃b:Nat,l[l.length-2]=b:=⟨l[l.length-2].toNat,za⟩
      rw [hm,f]
      exact or_gen m b za za
    rw [c]
    generalize y:1073741824*l[l.length-1]+l[l.length-2]=T
    obtain⟨r,a,u,I,J,x⟩:=log_eq T za
    rw [a,zd]
    by_cases K:l.length=2
    · have g3:(l.length:Int)<=2:=by omega
      simp only [g3,decide_true,if_true]
      have p:cY l ((0:Int),(l.length:Int)-1)=some (.next (l[l.length-1],0)):=by
        unfold cY
        dsimp only
        rw [if_pos so,kp (i:=l.length-1) za za,zd,w64 za za]
        have:orI .i64 (xG .i64 (0:Int) 30) l[l.length-1]=l[l.length-1]:=by
          obtain⟨b,f⟩:∃b:Nat,l[l.length-1]=b:=⟨l[l.length-1].toNat,za⟩
          rw [f]
          have:=or_gen 0 b za za
          simpa using this
        rw [this]
        congr 3;omega
      have e2:cY l (l[l.length-1],0)=some (.next (T, -1)):=by
        unfold cY
        dsimp only
        rw [if_pos zb,kp (i:=l.length-2) za za,zd,c,y]
        rfl
      have D:cY l (T, -1)=some (.stop T):=by
        unfold cY
        rfl
      rw [tv p,tv e2,dE D]
      simp only [zd,u]
      rw [show(7680:Int)*((l.length:Int)-1-1)=0 by omega,Int.add_zero,w64 za za]
      exact⟨_,rfl,rfl,zc,zc,x za⟩
    · have g3:¬(l.length:Int)<=2:=by omega
      simp only [g3,decide_false,FD,if_false]
      obtain⟨k,G,H,k3,L,N,O⟩:=digits_eq (n:=T) za za
      have z:31<=k:=by
        apply Hn
        intro hc
        have:(2:Int) ^ k<=2 ^ 30:=by
          have:=Hl (show 0<2 by decide) (show k<=30 by omega)
          exact_mod_cast this
        have e:(2:Int) ^ 30=1073741824:=by decide
        omega
      unfold fP at a
      have hw:GV .u64 T=T:=IntWalk.u64_in _ za
      have t:¬T<1:=by omega
      simp only [t,decide_false,FD,if_false]at a
      rw [hw,G,zd,w64 (n:=(k:Int)-1) za za]at a
      rw [w64 (n:=(l.length:Int)-2) za za,w64 (n:=30*((l.length:Int)-2)) za za,kp (n:=(l.length:Int)-2) (i:=l.length-2) za za]
      simp only [zd,c,y,H]
      rw [w64 (n := (k : Int) - 31) za za, IntWalk.u64_in ((k : Int) - 31) za,
        w64 (n:=30*((l.length:Int)-2)+k) za za,w64 (n:=30*((l.length:Int)-2)+k-1) za za]
      have e:BC .i64 T ((k:Int)-31)=some (tU .i64 T ((k:Int)-31)):=by unfold BC;rw [if_neg za]
      obtain⟨d,⟨d0,C⟩,j⟩:=digits_D (tU .i64 T ((k:Int)-31))
      rw [e,zd,rr,j _ za,zd]
      have F:r=(256*((k:Int)-1)+d,0):=by
        by_cases hc:(k:Int)-1<=30
        · simp only [hc,decide_true,if_true]at a
          have hk:(k:Int)=31:=by omega
          have es:yI .i64 T (GV .i64 (30-((k:Int)-1)))=some T:=by
            rw [hk,w64 za za]
            unfold yI
            rw [if_neg za]
            unfold xG
            show some (GV .i64 (T*1))=_
            rw [Int.mul_one,w64 za za]
          have q:tU .i64 T ((k:Int)-31)=T:=by
            rw [hk]
            show T.fdiv 1=T
            rw [Int.fdiv_one]
          rw [q]at j
          rw [es,zd,j _ za,zd]at a
          exact(Fg a).symm
        · simp only [hc,decide_false,FD,if_false]at a
          rw [w64 (n:=(k:Int)-1-30) za za,show(k:Int)-1-30=k-31 by omega,e,zd,j _ za,zd]at a
          exact(Fg a).symm
      subst F
      refine⟨_,rfl,?_,by simp only;rw [w64 za za];omega,by simp only;rw [w64 za za];omega,rfl⟩
      simp only
      rw [w64 za za]
      congr 2;omega
theorem floorL_at{l:Int}(h: -1000000<=l∧l<=1000000):jq l=some (l*30103 / 256000):=by
  unfold jq nf
  rw [if_pos so,zd]
  dsimp only
  rw [if_neg so,w64 (n:=l*30103) za za]
  have f: -30103000000<=l*30103∧l*30103<=30103000000:=by omega
  generalize l*30103=n at*
  have c:um .i64 n 256000=some (GV .i64 (n.tdiv 256000)):=by unfold um;rw [if_neg za]
  have e2:wO n 256000=some (n.tmod 256000):=by unfold wO;rw [if_neg za]
  rw [c,e2,zd,zd]
  rcases Gn 0 n with a|a
  · rw [HC a,IN a,if_neg so,w64 za za]
  · obtain⟨m,rfl⟩:∃m,n= -m:=⟨-n,za⟩
    rw [IL,Int.neg_tmod,HC za,IN za,w64 (n:= -(m / 256000)) za za,w64 za za]
    by_cases hm:m%256000=0
    · rw [if_neg so];congr 1;omega
    · rw [if_pos so];congr 1;omega
theorem ceilL_at{l:Int}(h: -1000000<=l∧l<=1000000):mP l=some (-(-l*30103 / 256000)):=by
  unfold mP
  rw [w64 (n:=0-l) za za,floorL_at za,zd,w64 za za]
  congr 1
  rw [show 0-l= -l by omega];omega
theorem half_at'{n:Int}:km n=some (n / 2):=by
  unfold km
  show some (n.fdiv (2 ^ (min (1:Int).toNat 64)))=_
  rw [Int.fdiv_eq_ediv_of_nonneg _ (by decide)]
  rfl
end Go.Dw.Ef
set_option maxRecDepth 100000
set_option maxHeartbeats 4000000
namespace Go.Dw.Ef
open Go.Dw Go.Proofs
theorem stN_of{s:bw}(a:s.cx.length<=4000)(h:Iv.vS s=true):StN s:=by
  unfold Iv.vS at h
  by_cases c:s.cU=0
  · rw [if_pos c]at h
    simp only [E8,Iv.inB,decide_eq_true_eq,beq_iff_eq]at h
    exact⟨by unfold I64;omega,by unfold I64;omega,a,za⟩
  rw [if_neg c]at h
  by_cases h1:s.cU=1
  · rw [if_pos h1]at h
    simp only [E8,Iv.qF,Iv.inB,G4,decide_eq_true_eq,beq_iff_eq]at h
    exact⟨by unfold I64;omega,by unfold I64;omega,a,za⟩
  rw [if_neg h1]at h
  by_cases f:s.cU=2
  · rw [if_pos f]at h
    simp only [E8,Iv.inB,decide_eq_true_eq,beq_iff_eq]at h
    exact⟨by unfold I64;omega,by unfold I64;omega,a,za⟩
  rw [if_neg f]at h
  cases h
theorem Gain_eq{r:bv}(a:iZ r)(n d:Int):∃x y,nH r n d=some x∧ql r n d=some y∧
    ((x.2=0∧y=x∧vN x.1.bR=true∧vN x.1.bO=true∧x.1.bO≠ [])∨(x.2≠0∧(y.2≠0∨y.1.bR=[]))):=by
  unfold nH ql
  rw [Iv.vP_eq a.rok,Iv.ref_vP_eq a.rok]
  simp only [zd]
  cases c:Iv.vP r with
  |false=>exact⟨_,_,rfl,rfl,.inr ⟨by decide,.inl (by decide)⟩⟩
  |true=>
    simp only [HV,FD,if_false]
    rw [Iv.pin_eq,Iv.pin_eq,Iv.In_eq,Iv.In_eq]
    simp only [zd]
    cases h1:Iv.inB n 0 65536 with
    |false=>exact⟨_,_,rfl,rfl,.inr ⟨by decide,.inl (by decide)⟩⟩
    |true=>
      cases k:Iv.inB d 1 65536 with
      |false=>exact⟨_,_,rfl,rfl,.inr ⟨by decide,.inl (by decide)⟩⟩
      |true=>
        simp only [HV,FD,if_false]
        unfold Iv.vP at c
        simp only [E8,decide_eq_true_eq,List.all_eq_true]at c
        have hs:∀s∈r.bJ,StN s:=λs hs=>stN_of (by have:=a.2 s hs;omega) (c.2.1 s hs)
        obtain⟨o,l,f,e2,g⟩:=gain_loop (r:=r) za hs n d r.bJ.length 0 za [1] [1] (by decide) (by decide) (by decide)
        have j:((0:Nat):Int)=0:=rfl
        rw [j]at f e2
        rw [f,e2]
        simp only [zd]
        rcases o with p|q
        · obtain⟨rfl,g1,g2,g3⟩:=g
          exact⟨_,_,rfl,rfl,.inl ⟨rfl,rfl,g1,g2,g3⟩⟩
        · obtain⟨g1,rfl|⟨t,rfl,g2⟩⟩:=g
          · exact⟨_,_,rfl,rfl,.inr ⟨g1,.inr rfl⟩⟩
          · exact⟨_,_,rfl,rfl,.inr ⟨g1,.inl g2⟩⟩
theorem scale_eq(s:bK):dC s=iI s∧∃b,dC s=some b:=by
  unfold dC iI
  rcases lC s.bN with⟨a,e2, -⟩|⟨a,e2, -⟩
  · rw [a,e2]
    refine⟨rfl,?_⟩
    simp only [zd]
    repeat' split
    all_goals exact⟨_,rfl⟩
  · rw [a,e2]
    exact⟨rfl,_,rfl⟩
theorem rfloorL_at{l:Int}(h: -1000000<=l∧l<=1000000):nV l=some (l*30103 / 256000):=by
  unfold nV
  rw [if_neg so,if_neg so,w64 (n:=l*30103) za za]
  have f: -30103000000<=l*30103∧l*30103<=30103000000:=by omega
  generalize l*30103=n at*
  have c:um .i64 n 256000=some (GV .i64 (n.tdiv 256000)):=by unfold um;rw [if_neg za]
  rw [c,zd]
  rcases Gn 0 n with a|a
  · rw [HC a,w64 (n:=n / 256000) za za,w64 (n:=n / 256000*256000) za za,if_neg so]
  · obtain⟨m,rfl⟩:∃m,n= -m:=⟨-n,za⟩
    rw [IL,HC za,w64 (n:= -(m / 256000)) za za,w64 (n:= -(m / 256000)*256000) za za]
    by_cases hm:m%256000=0
    · rw [if_neg so];congr 1;omega
    · rw [if_pos so,w64 za za];congr 1;omega
theorem rceilL_at{l:Int}(h: -1000000<=l∧l<=1000000):qu l=some (-(-l*30103 / 256000)):=by
  unfold qu
  rw [w64 (n:=0-l) za za,rfloorL_at za,zd,w64 za za]
  congr 1
  rw [show 0-l= -l by omega];omega
theorem and1{n:Int}(h: -9223372036854775808<=n∧n<=9223372036854775807):andI .i64 n 1=n%2:=by
  unfold andI
  show GV .i64 (((BitVec.ofInt 64 n &&& BitVec.ofInt 64 1).toNat:Nat):Int)=_
  rw [BitVec.toNat_and,BitVec.toNat_ofInt]
  have e:(BitVec.ofInt 64 1).toNat=1:=by decide
  rw [e,Nat.and_one_is_mod]
  rw [w64 za za]
  omega
theorem rhalf_at{n:Int}(h: -4000000000<=n∧n<=4000000000):oS n=some (n / 2):=by
  unfold oS
  rw [and1 za,w64 (n:=n-n%2) za za]
  unfold um
  rw [if_neg (by decide),zd]
  have:(n-n%2).tdiv 2=n / 2:=by
    rw [show n-n%2=2*(n / 2)by omega]
    rw [Int.mul_comm,Int.mul_tdiv_cancel _ (by decide)]
  rw [this,w64 za za]
theorem lh_wrap{q lo hi:Int}(a: -700000<=q∧q<=700000)(h:0<=lo∧lo<=hi∧hi<=1099511627776):
    GV .i64 ((q-2) / 2*30103 / 256000+lo)<=GV .i64 (-(-(0-(0-(q+6)) / 2)*30103 / 256000)+hi):=by
  rw [w64 za za,w64 za za]
  omega
theorem station_eq(s:bK){r:bv}(N:iZ r)(am:Int){a b:Int}(K:b<=13194139533312):∃x y,jU s r am a b=some x∧lW s r am a b=some y∧((x.2=0∧y=x∧x.1.bo<=x.1.ba)∨(x.2≠0∧y.2≠0)):=by
  obtain⟨Q,c,O⟩:=scale_eq s
  unfold jU lW
  rw [<-Q,O]
  simp only [zd]
  have err:∀{n m:Int}{f g:bh},n≠0->m≠0->∃x y:bh×Int,some (f,n)=some x∧some (g,m)=some y∧((x.2=0∧y=x∧x.1.bo<=x.1.ba)∨(x.2≠0∧y.2≠0)):=λh J=>⟨_,_,rfl,rfl,.inr ⟨h,J⟩⟩
  cases c with
  |false=>exact err (by decide) (by decide)
  |true=>
    simp only [HV,FD,if_false]
    by_cases h1:am<1
    · simp only [h1,decide_true,if_true];exact err (by decide) (by decide)
    simp only [h1,decide_false,FD,if_false]
    by_cases F:am>1073741823
    · simp only [F,decide_true,if_true];exact err (by decide) (by decide)
    simp only [F,decide_false,FD,if_false]
    unfold ng
    obtain⟨x,y,I,e2,g⟩:=Gain_eq N s.bR s.bO
    obtain⟨t,t1,t2,t3⟩:=p9 s.bN (a:=a) K
    rw [I,e2]
    simp only [zd]
    rcases g with⟨g0,rfl,g1,g2,g3⟩|⟨g0,g1⟩
    · obtain⟨p,B,C,G,H,D⟩:∃p,fP am=some p∧oz am=some p∧ -256<=p.1∧p.1<=16400∧p.2=0:=by
        obtain⟨p,B,C,G,H,D⟩:=log_eq am za
        exact⟨p,B,C,G,H,D za⟩
      have z0:(y.2 != 0)=false:=by simp [g0]
      rw [z0]
      simp only [FD,if_false]
      by_cases j:y.1.bR=[]
      · have:e8 y.1.bR=some (0,2):=by
          rw [j];unfold e8
          rw [nv_eq zb]
          rfl
        rw [this,j]
        exact err (by decide) (by decide)
      · obtain⟨u,u1,u2,Y,u4,T⟩:=logNat_eq g1 j
        obtain⟨v,v1,v2,v3,v4,v5⟩:=logNat_eq g2 g3
        have L:((y.1.bR.length:Int)==0)=false:=by
          have:=List.length_pos_iff.2 j
          simp;exact j
        rw [L,u1,u2,v1,v2,B,C,t1,t2]
        have W:(u.2 != 0)=false:=by simp [T]
        have z2:(v.2 != 0)=false:=by simp [v5]
        have z3:(p.2 != 0)=false:=by simp [D]
        simp only [zd,W,z2,z3,FD,if_false]
        by_cases k:t.2.2=0
        · have z4:(t.2.2 != 0)=false:=by simp [k]
          simp only [z4,FD,if_false]
          rw [w64 (n:=2*p.1) za za,w64 (n:=2*p.1+v.1) za za,w64 (n:=2*p.1+v.1-u.1) za za]
          generalize X:2*p.1+v.1-u.1=q
          have z: -700000<=q∧q<=700000:=by omega
          rw [w64 (n := q - 2) za za, w64 (n := 0 - q) za za, w64 (n := 0 - q - 6) za za, w64 (n := q + 6) za za, w64 (n := 0 - (q + 6)) za za,
            half_at',half_at',rhalf_at za,rhalf_at za]
          simp only [zd]
          rw [floorL_at za,rfloorL_at za]
          simp only [zd]
          rw [show 0-q-6=0-(q+6)by omega,w64 (n:=0-(0-(q+6)) / 2) za za,ceilL_at za,rceilL_at za]
          exact⟨_,_,rfl,rfl,.inl ⟨rfl,rfl,lh_wrap z (t3 k)⟩⟩
        · have z4:(t.2.2 != 0)=true:=by simp [k]
          simp only [z4,if_true]
          exact err k k
    · have z0:(x.2 != 0)=true:=by simp [g0]
      rw [z0]
      simp only [if_true,zd,z0]
      by_cases l:y.2=0
      · have E:(y.2 != 0)=false:=by simp [l]
        have j:y.1.bR=[]:=g1.resolve_left (λh=>h l)
        rw [E,j]
        exact err g0 (by decide)
      · have E:(y.2 != 0)=true:=by simp [l]
        rw [E]
        exact err g0 l
end Go.Dw.Ef
set_option maxRecDepth 100000
set_option maxHeartbeats 4000000
namespace Go.Dw.Ef
open Go.Dw
open Sd (lF ke ip)
theorem find_l18{l out:List Pick}{i:Nat}(hi:i<l.length)(ho:out.length<=1000):
    ∃k:Nat,cI (mU out l (i:Int)) (out.length:Int)=some ((i:Int),(k:Int),out)∧k<=out.length∧(∀j,(h:k<=j)->(c:j<out.length)->0<jo out[j] l[i])∧(∀h:0<k,∀c:k-1<out.length,¬0<jo (out[k-1]) l[i]):=by
  obtain⟨o,h1,k,rfl,g⟩:=wi (body:=mU out l (i:Int)) (λs:Int=>∃k:Nat,s=(k:Int)∧k<=out.length∧∀j,(h:k<=j)->(c:j<out.length)->0<jo out[j] l[i]) (λs=>s.toNat)
    (λo => ∃ k : Nat, o = ((i : Int), (k : Int), out) ∧ k ≤ out.length ∧ (∀ j, (h : k ≤ j) → (c : j < out.length) → 0 < jo out[j] l[i]) ∧ (∀ h : 0 < k, ∀ c : k - 1 < out.length, ¬ 0 < jo (out[k - 1]) l[i])) (by
    rintro s ⟨k,rfl,hk,a⟩
    unfold mU
    by_cases h:0<k
    · rw [if_pos so,w64 (n:=(k:Int)-1) za za,tN za za,kp (i:=k-1) za za,kp (i:=i) rfl hi]
      simp only [zd,kU]
      by_cases hc:jo (out[k-1]'za) l[i]>0
      · rw [if_pos (by simpa using hc)]
        refine .inl ⟨_,rfl,⟨k-1,za,za,λj p f=>?_⟩,za⟩
        by_cases e:j=k-1
        · subst e;exact hc
        · exact a j za f
      · rw [if_neg (by simpa using hc)]
        exact .inr ⟨_,rfl,k,rfl,hk,a,λ_ _=>hc⟩
    · rw [if_neg so]
      exact .inr ⟨_,rfl,k,rfl,hk,a,λc=>(h c).elim⟩) (out.length:Int) ⟨out.length,rfl,EB _,λj p f=>za⟩
  exact⟨k,h1,g⟩
theorem shift_eq{out:List Pick}{x:Pick}{k:Nat}(hk:k<=out.length):
    (we (out++[x]) (k+1) (out.length+1-(k+1)) (((out++[x]).drop k).take (out.length+1-k))).set k x=out.take k++x::out.drop k:=by
  have g:(out++[x]).drop k=out.drop k++[x]:=Ho hk
  have c:((out++[x]).drop k).take (out.length+1-k)=out.drop k++[x]:=by
    rw [g];exact IH so
  unfold we
  rw [c]
  have a:Nat.min (out.drop k++[x]).length (out.length+1-(k+1))=out.length-k:=by
    show min _ _=_
    simp
  rw [a]
  have j:(out.drop k++[x]).take (out.length-k)=out.drop k:=by
    rw [IF zb]
    exact IH zb
  have l:(out++[x]).drop (k+1+(out.length-k))=[]:=Hp so
  rw [j,l,GW]
  have f:(out++[x]).take (k+1)=out.take k++[(out++[x])[k]'so]:=by
    rw [tD so,IF hk]
  rw [f,ED,IC _ _ so]
  simp [FM hk]
theorem k31_eq{l out:List Pick}{i k:Nat}(hi:i<l.length)(c:l.length<=1000)(ho:out.length<=1000)(hk:k<=out.length):
    iD l ((i:Int),(k:Int),out)=some (.next (((i+1:Nat):Int),out.take k++l[i]::out.drop k)):=by
  unfold iD
  simp only
  rw [kp (i:=i) rfl hi,zd,cu so,zd]
  have hlen:(out++[l[i]]).length=out.length+1:=by simp
  rw [w64 (n:=(k:Int)+1) za za,w64 (n:=(i:Int)+1) za za,hlen]
  rw [wq za za za,zd,wq za za za,zd]
  have t1:(0+((k:Int)+1).toNat)=k+1:=by omega
  have t2:(0+(((out.length+1:Nat):Int)).toNat)=out.length+1:=by omega
  have t3:(0+((k:Int)).toNat)=k:=by omega
  rw [t1,t2,t3,yL za za,zd,yE za za,zd,zd]
  have a:(we (out++[l[i]]) (k+1) (out.length+1-(k+1)) (((out++[l[i]]).drop k).take (out.length+1-k))).length=out.length+1:=by
    have:=congrArg HO (shift_eq (x:=l[i]) hk)
    rw [Hx]at this
    rw [this]
    simp
    omega
  rw [tN za za,zd,vz (i:=k) rfl za,zd,shift_eq hk]
  rfl
theorem ins_sorted{out:List Pick}{x:Pick}{k:Nat}(ho:out.Pairwise (λx y=>jo x y<0))(hk:k<=out.length)(h1:∀j,(h:k<=j)->(t:j<out.length)->0<jo out[j] x)
    (u:∀h:0<k,∀t:k-1<out.length,¬0<jo (out[k-1]) x∧out[k-1]≠x):(out.take k++x::out.drop k).Pairwise (λx y=>jo x y<0):=by
  have c:(out.take k++out.drop k).Pairwise (λx y=>jo x y<0):=by rwa [IE]
  obtain⟨C,D,E⟩:=List.pairwise_append.1 c
  have g:∀y∈out.drop k,jo x y<0:=λy q=>by
    obtain⟨j,l,rfl⟩:=HN q
    simp only [FQ]at l
    rw [Ht]
    have:=h1 (k+j) za za
    have:=fD.vM x out[k+j]
    omega
  have p:∀y∈out.take k,jo y x<0:=λy q=>by
    obtain⟨j,l,rfl⟩:=HN q
    simp only [FR]at l
    rw [Hv]
    obtain⟨g1,g2⟩:=u za za
    have z:jo (out[k-1]'za) x<0:=by
      have:=fD.vM (out[k-1]'za) x
      by_cases B:jo (out[k-1]'za) x=0
      · exact(g2 (pI B)).elim
      · omega
    by_cases e:j=k-1
    · subst e;exact z
    · have:=List.pairwise_iff_getElem.1 ho j (k-1) za za za
      exact fD.lt this za
  refine List.pairwise_append.2 ⟨C,List.pairwise_cons.2 ⟨g,D⟩,λa r b f=>?_⟩
  rcases List.mem_cons.1 f with rfl|f
  · exact p a r
  · exact E a r b f
theorem rn{l:List Pick}(B:l.length<=1000):∃r,kz l=some r∧r.Pairwise (λx y=>jo x y<0)∧(∀x,x∈r↔x∈l):=by
  obtain⟨o,h1,u,z⟩:=wi (body:=oN l) (λst:Int×List Pick=>∃(i:Nat)(out:List Pick),st=((i:Int),out)∧i<=l.length∧out.length<=i∧out.Pairwise (λx y=>jo x y<0)∧∀x,x∈out↔x∈l.take i) (λst=>((l.length:Int)-st.1).toNat)
    (λo => o.Pairwise (λx y => jo x y < 0) ∧ ∀ x, x ∈ o ↔ x ∈ l) (by
    rintro st ⟨i,out,rfl,hi,ho,hs,hm⟩
    unfold oN
    simp only
    by_cases a:i<l.length
    · rw [if_pos so]
      obtain⟨k,t,hk,p,g⟩:=find_l18 (l:=l) (out:=out) a za
      rw [t,zd]
      refine .inl ?_
      have c:(∀h:0<k,∀f:k-1<out.length,out[k-1]≠l[i])->∃s',iD l ((i:Int),(k:Int),out)=some (.next s')∧(∃(i:Nat)(out:List Pick),s'=((i:Int),out)∧i<=l.length∧out.length<=i∧out.Pairwise (λx y=>jo x y<0)∧∀x,x∈out↔x∈l.take i)∧((l.length:Int)-s'.1).toNat<((l.length:Int)-(i:Int)).toNat:=λq=>by
        refine⟨_,k31_eq a B za hk,⟨i+1,_,rfl,za,so,ins_sorted hs hk p (λh f=>⟨g h f,q h f⟩),λx=>?_⟩,zc⟩
        rw [tD a,GC,GX,GC, <-hm x]
        have:x∈out↔x∈out.take k∨x∈out.drop k:=by rw [<-GC,IE]
        rw [this]
        simp only [GD]
        constructor
        · rintro(h|h|h)
          · exact .inl (.inl h)
          · exact .inr h
          · exact .inl (.inr h)
        · rintro((h|h)|h)
          · exact .inl h
          · exact .inr (.inr h)
          · exact .inr (.inl h)
      dsimp only
      by_cases j:0<k
      · rw [if_pos so,w64 (n:=(k:Int)-1) za za,tN za za,kp (i:=k-1) za za,kp (i:=i) rfl a]
        simp only [zd]
        rw [show(_&&_)=eqF (out[k-1]'za) l[i]from rfl,eqs]
        by_cases he:out[k-1]'za=l[i]
        · rw [if_pos (by simpa using he),w64 za za]
          refine⟨_,rfl,⟨i+1,out,zb,za,za,hs,λx=>?_⟩,zc⟩
          rw [tD a,GC, <-hm x,GD]
          refine⟨.inl,λh=>h.elim id λh=>?_⟩
          subst h
          rw [<-he]
          exact FB _
        · rw [if_neg (by simpa using he)]
          exact c λ_ _=>he
      · rw [if_neg so]
        exact c λh=>(j h).elim
    · rw [if_neg so]
      refine .inr ⟨_,rfl,hs,λx=>?_⟩
      rw [hm x,IH za]) (0,[]) ⟨0,[],rfl,EK _,EB _,.nil,λx=>zb⟩
  refine⟨o,?_,u,z⟩
  unfold kz
  rw [h1];rfl
end Go.Dw.Ef
set_option maxRecDepth 100000
set_option maxHeartbeats 4000000
namespace Go.Dw.Ef
open Go.Dw Go.Proofs
open Sd (lF ke ip)
structure pX(s:ai):Prop where
  box:BoxP s.ae.bt
  tab:qL s.ae.bP
  cap:1<=s.ae.eV∧s.ae.eV<=1099511627776
  tol:0<=s.ae.bD∧s.ae.bD<=1099511627776
  lim:0<=s.ae.dH∧s.ae.dH<=1099511627776
  span:0<=s.ae.df∧s.ae.df<=1099511627776
  least:2<=s.ae.de∧s.ae.de<=16
  cor:qL s.bX.bN
  num:0<=s.bX.bR∧s.bX.bR<=65536
  den:1<=s.bX.bO∧s.bX.bO<=65536
  tol2:0<=s.bD∧s.bD<=1099511627776
theorem ain_at(a b c:Int):ja a b c=some (Iv.inB a b c):=Iv.rin_eq a b c
theorem mN{a b c:Int}:Iv.inB a b c=true↔b<=a∧a<=c:=by unfold Iv.inB;simp
theorem sX{a b c:Int}(h:Iv.inB a b c=false):¬(b<=a∧a<=c):=λe=>by rw [mN.2 e]at h;cases h
theorem scale_ok'(s:bK):Ok (dC s) (λb=>b=true↔qL s.bN∧(0<=s.bR∧s.bR<=65536)∧1<=s.bO∧s.bO<=65536):=by
  unfold dC
  rcases lC s.bN with⟨a, -,c⟩|⟨a, -,c⟩
  · rw [a,zd]
    refine He (λ_=>?_) (λh=>(h rfl).elim)
    refine Hc (λ_=>Hc (λ_=>Hc (λ_=>H9 ?_) (λ_=>H9 ?_)) (λ_=>H9 ?_)) (λ_=>H9 ?_)
    · rw [decide_eq_true_eq];exact⟨λh=>⟨c,⟨za,za⟩,za,h⟩,λh=>h.2.2.2⟩
    · exact⟨nofun,λh=>by have:=h.2;omega⟩
    · exact⟨nofun,λh=>by have:=h.2;omega⟩
    · exact⟨nofun,λh=>by have:=h.2;omega⟩
  · rw [a,zd]
    refine He (nofun) (λ_=>H9 ⟨nofun,λh=>(c h.1).elim⟩)
theorem set_ok(s:ai):Ok (ek s) (λe=>e=0∧pX s∨e=27∧¬pX s):=by
  unfold ek
  have x:Ok (ex s.ae []) (λe=>e=0∧(BoxP s.ae.bt∧qL s.ae.bP∧(1<=s.ae.eV∧s.ae.eV<=1099511627776)∧(0<=s.ae.bD∧s.ae.bD<=1099511627776)∧(0<=s.ae.dH∧s.ae.dH<=1099511627776)∧(0<=s.ae.df∧s.ae.df<=1099511627776)∧2<=s.ae.de∧s.ae.de<=16)∨e≠0∧¬pX s):=by
    unfold ex
    rw [jJ,zd]
    refine Ok.iteND (λh=>H9 (.inr ⟨by decide,λe=>h e.box⟩)) (λa=>?_)
    rcases lC s.ae.bP with⟨c, -,f⟩|⟨c, -,f⟩
    rotate_left
    · rw [c,zd]
      exact Ok.CT (λ_=>H9 (.inr ⟨by decide,λe=>f e.tab⟩)) (nofun)
    rw [c,zd]
    refine Ok.CT (λh=>(h rfl).elim) (λ_=>?_)
    rw [ain_at,ain_at,ain_at,ain_at,ain_at,zd]
    refine IQ (λh=>H9 (.inr ⟨by decide,λe=>sX h e.cap⟩)) (λh1=>?_)
    rw [zd]
    refine IQ (λh=>H9 (.inr ⟨by decide,λe=>sX h e.tol⟩)) (λq=>?_)
    rw [zd]
    refine IQ (λh=>H9 (.inr ⟨by decide,λe=>sX h e.lim⟩)) (λr=>?_)
    rw [zd]
    refine IQ (λh=>H9 (.inr ⟨by decide,λe=>sX h e.span⟩)) (λt=>?_)
    rw [zd]
    refine IQ (λh=>H9 (.inr ⟨by decide,λe=>sX h e.least⟩)) (λu=>?_)
    refine Hc (λh=>by simp at h) (λ_=>?_)
    have:cI (dG [] s.ae) (0:Int)=some (.inl ()):=dE (by unfold dG;rfl)
    rw [this]
    exact H9 (.inl ⟨rfl,a,f,mN.1 h1,mN.1 q,mN.1 r,mN.1 t,mN.1 u⟩)
  refine HZ x (λe he=>?_)
  refine Ok.CT (λh=>H9 (.inr ⟨rfl,(he.resolve_left (λg=>h g.1)).2⟩)) (λp=>?_)
  obtain⟨-,a1,a2,a3,a4,a5,j,k⟩:=he.resolve_right (λg=>g.1 p)
  refine HZ (scale_ok' s.bX) (λb a=>?_)
  refine IQ (λh=>H9 (.inr ⟨rfl,λe=>by rw [a.2 ⟨e.cor,e.num,e.den⟩]at h;cases h⟩)) (λh=>?_)
  obtain⟨b1,b2,l⟩:=a.1 h
  exact Hc (λh=>H9 (.inr ⟨rfl,λe=>by have:=e.tol2;omega⟩)) (λ_=>Hc (λh=>H9 (.inr ⟨rfl,λe=>by have:=e.tol2;omega⟩)) (λ_=>H9 (.inl ⟨rfl,a1,a2,a3,a4,a5,j,k,b1,b2,l,za,za⟩)))
theorem rset_ok(s:ai):Ok (cr s) (λe=>e=0∧pX s∨e=27∧¬pX s):=by
  unfold cr
  have p:Ok (f9 s.ae) (λb=>(b=true->BoxP s.ae.bt∧qL s.ae.bP∧(1<=s.ae.eV∧s.ae.eV<=1099511627776)∧(0<=s.ae.bD∧s.ae.bD<=1099511627776)∧(0<=s.ae.dH∧s.ae.dH<=1099511627776)∧(0<=s.ae.df∧s.ae.df<=1099511627776)∧2<=s.ae.de∧s.ae.de<=16)∧(b=false->¬pX s)):=by
    unfold f9
    rw [jk,zd]
    refine Hc (λa=>?_) (λh=>H9 ⟨nofun,λ_ e=>h e.box⟩)
    rcases lC s.ae.bP with⟨-,c,f⟩|⟨-,c,f⟩
    rotate_left
    · rw [c,zd]
      exact He (nofun) (λ_=>H9 ⟨nofun,λ_ e=>f e.tab⟩)
    rw [c,zd]
    refine He (λ_=>?_) (λh=>(h rfl).elim)
    have no:(pX s->False)->Ok (some false) (λb=>(b=true->BoxP s.ae.bt∧qL s.ae.bP∧(1<=s.ae.eV∧s.ae.eV<=1099511627776)∧(0<=s.ae.bD∧s.ae.bD<=1099511627776)∧(0<=s.ae.dH∧s.ae.dH<=1099511627776)∧(0<=s.ae.df∧s.ae.df<=1099511627776)∧2<=s.ae.de∧s.ae.de<=16)∧(b=false->¬pX s)):=λh=>H9 ⟨nofun,λ_=>h⟩
    refine Hc (λ_=>Hc (λ_=>Hc (λ_=>Hc (λ_=>Hc (λ_=>Hc (λ_=>Hc (λ_=>Hc (λ_=>Hc (λ_=>H9 ?_) ?_) ?_) ?_) ?_) ?_) ?_) ?_) ?_) ?_
    · constructor
      · intro h;rw [decide_eq_true_eq]at h
        exact⟨a,f,⟨za,za⟩,⟨za,za⟩,⟨za,za⟩,⟨za,za⟩,za,h⟩
      · intro h e;rw [decide_eq_false_iff_not]at h;exact h e.least.2
    · exact λh=>no λe=>by have:=e.least;omega
    · exact λh=>no λe=>by have:=e.span;omega
    · exact λh=>no λe=>by have:=e.span;omega
    · exact λh=>no λe=>by have:=e.lim;omega
    · exact λh=>no λe=>by have:=e.lim;omega
    · exact λh=>no λe=>by have:=e.tol;omega
    · exact λh=>no λe=>by have:=e.tol;omega
    · exact λh=>no λe=>by have:=e.cap;omega
    · exact λh=>no λe=>by have:=e.cap;omega
  refine HZ p (λe he=>?_)
  refine IQ (λh=>H9 (.inr ⟨rfl,he.2 h⟩)) (λl=>?_)
  obtain⟨a1,a2,a3,a4,a5,g,j⟩:=he.1 l
  rw [<-(scale_eq s.bX).1]
  refine HZ (scale_ok' s.bX) (λb a=>?_)
  refine IQ (λh=>H9 (.inr ⟨rfl,λe=>by rw [a.2 ⟨e.cor,e.num,e.den⟩]at h;cases h⟩)) (λh=>?_)
  obtain⟨b1,b2,k⟩:=a.1 h
  exact Hc (λh=>H9 (.inr ⟨rfl,λe=>by have:=e.tol2;omega⟩)) (λ_=>Hc (λh=>H9 (.inr ⟨rfl,λe=>by have:=e.tol2;omega⟩)) (λ_=>H9 (.inl ⟨rfl,a1,a2,a3,a4,a5,g,j,b1,b2,k,za,za⟩)))
theorem set_two(s:ai):(ek s=some 0∧cr s=some 0∧pX s)∨(ek s=some 27∧cr s=some 27):=by
  obtain⟨a,a1,a2⟩:=set_ok s
  obtain⟨b,b1,b2⟩:=rset_ok s
  rcases a2 with⟨rfl,a2⟩|⟨rfl,a2⟩<;>rcases b2 with⟨rfl,b2⟩|⟨rfl,b2⟩
  · exact .inl ⟨a1,b1,a2⟩
  · exact(b2 a2).elim
  · exact(a2 b2).elim
  · exact .inr ⟨a1,b1⟩
theorem pb{t:bc}(j:qL t)(b:ak)(p:aa):∃r,dI t b p=some r∧fk t b p=some r∧(¬PosP p->r.2.2≠0):=by
  unfold dI fk
  rcases lC t with⟨g,e2, -⟩|⟨-, -,h⟩
  rotate_left
  · exact(h j).elim
  rw [g,e2,jJ,jk,n5,nJ]
  simp only [zd,bne_self_eq_false,FD,if_false]
  by_cases c:BoxP b
  · rw [decide_eq_true c]
    simp only [HV,FD,if_false]
    by_cases hp:PosP p
    · rw [decide_eq_true hp]
      simp only [HV,FD,if_false]
      unfold lK
      obtain⟨n,n1,k,u,x⟩:=near_eq b p
      obtain⟨f,f1,f2,f3,f4⟩:=far_eq b p
      obtain⟨r,l,q⟩:=between_eq t (a:=n) f4
      simp only [n1,k,f1,f2,zd,l,q]
      exact⟨_,rfl,rfl,λh=>(h hp).elim⟩
    · rw [decide_eq_false hp]
      exact⟨(0,0,20),rfl,rfl,λ_=>by decide⟩
  · rw [decide_eq_false c]
    exact⟨(0,0,20),rfl,rfl,λ_=>by decide⟩
theorem epAt_len{v:ag}(a:InvLen v){s:Sid}{t:Int}{e:bi}(h:epAt v s t=some e):iZ e.b7:=by
  unfold epAt at h
  cases hc:sh v s with
  |none=>rw [hc]at h;cases h
  |some c=>
    rw [hc]at h
    exact(a.all c (chan_mem hc).1).2 e (epIn_mem h).1
theorem atR_len{v:ag}(h:IA v)(s:Sid)(t:Int):iZ (atR v s t).1.b7:=by
  unfold atR
  have a:iZ zEp.b7:=⟨by simp [zEp],by simp [zEp]⟩
  split
  · cases c:epAt v s t with
    |none=>exact a
    |some e=>exact epAt_len h.len c
  · exact a
theorem used_eq{s:ai}(hs:pX s)(u:cr s=some 0){v:ag}(g:IA v){p:Pick}(hp:su p):∃(ok:Bool)(ph c:al)(ep:bi),eO s v p=some (ph,ep,ok)∧gN s v p=some (c,ok)∧ph=c∧
    (ok=true->ep=(atR v p.az p.bS).1∧ph.bB=ep.bW∧ph=c∧iZ ep.b7∧PosP ph.bB∧0<=ph.bA∧(ph.bA<=ph.bY∧ph.bY<=18014398509481984)∧ph.cC=1∧∃r,dI s.ae.bP s.ae.bt ph.bB=some r∧r.2.2=0):=by
  unfold eO gN
  rw [u,vp_eq hp,ref_vp_eq hp,At_any g,refAt_any g]
  simp only [zd,bne_self_eq_false,FD,if_false]
  cases hk:vPk p with
  |false=>exact⟨false,_,_,_,rfl,rfl,rfl,nofun⟩
  |true=>
    simp only [HV,FD,if_false]
    have t:=atR_len g p.az p.bS
    generalize atR v p.az p.bS=x at*
    by_cases k:x.2=0
    rotate_left
    · have:(x.2 != 0)=true:=by simp [k]
      simp only [this,if_true]
      exact⟨false,_,_,_,rfl,rfl,rfl,nofun⟩
    have j:(x.2 != 0)=false:=by simp [k]
    simp only [j,FD,if_false]
    obtain⟨r,l,z,B⟩:=pb hs.tab s.ae.bt x.1.bW
    rw [z,zd]
    unfold jd io
    rcases lC s.ae.bP with⟨q, -, -⟩|⟨-, -,h⟩
    rotate_left
    · exact(h hs.tab).elim
    rw [q,jJ,n5,decide_eq_true hs.box]
    simp only [zd,bne_self_eq_false,FD,if_false,HV]
    unfold vPk at hk
    simp only [E8,decide_eq_true_eq]at hk
    obtain⟨-,y,C,k3,D, -⟩:=hk
    by_cases a:PosP x.1.bW
    · rw [decide_eq_true a,if_pos rfl,if_pos so,if_pos so,if_pos so,if_pos zb,zd,l]
      simp only [zd]
      by_cases f:r.2.2=0
      · have:(r.2.2 != 0)=false:=by simp [f]
        simp only [this,FD,if_false,zd,show(1:Int)<=100 by decide,decide_true,HV,bne_self_eq_false]
        exact⟨true,_,_,_,rfl,rfl,rfl,λ_=>⟨rfl,rfl,rfl,t,a,y,⟨by dsimp only;omega,by dsimp only;omega⟩,rfl,r,l,f⟩⟩
      · have:(r.2.2 != 0)=true:=by simp [f]
        simp only [this,if_true,zd,show(1:Int)<=100 by decide,decide_true,HV,FD,if_false]
        exact⟨false,_,_,_,rfl,rfl,rfl,nofun⟩
    · have f:(r.2.2 != 0)=true:=by simp [B a]
      rw [decide_eq_false a,f]
      exact⟨false,_,_,_,rfl,rfl,rfl,nofun⟩
end Go.Dw.Ef
set_option maxRecDepth 100000
set_option maxHeartbeats 4000000
namespace Go.Dw.Ef
open Go.Dw Go.Proofs
open Sd (lF ke ip)
theorem pU{α:Type}(l:List α):l.take l.length=l:=IG
theorem smallR(r:bv)(h:r.bJ.length<=9223372036854775807):Ok (jg r) (λb=>b=true->iZ r):=by
  unfold jg
  refine HZ (P:=λo=>o= .inr false∨(o= .inl ()∧∀x∈r.bJ,x.cx.length<=200)) (H5 (λs:Int=>∃i:Nat,s=i∧i<=r.bJ.length∧∀x∈r.bJ.take i,x.cx.length<=200) (λs=>((r.bJ.length:Int)-s).toNat) ?_ ⟨0,rfl,EK _,zb⟩) (λo ho=>?_)
  · rintro s ⟨i,rfl,i1,i2⟩
    unfold jK
    refine Hc (λf=>?_) (λc=>?_)
    · have hi:i<r.bJ.length:=by omega
      rw [kp rfl hi,zd,w64 za za]
      refine Hc (λ_=>Hb (.inl rfl)) (λhle=>H7 ⟨i+1,zb,za,λx a=>?_⟩ za)
      rw [tD hi]at a
      rcases List.mem_append.1 a with a|a
      · exact i2 x a
      · rw [List.mem_singleton.1 a];omega
    · have:i=r.bJ.length:=by omega
      subst this
      exact Hb (.inr ⟨rfl,by rw [pU]at i2;exact i2⟩)
  · rcases ho with rfl|⟨rfl,g⟩
    · exact H9 zb
    · refine H9 λh=>⟨?_,λx a=>by have:=g x a;omega⟩
      have:(r.bJ.length:Int)<=12:=by simpa using h
      omega
structure ArgI(v:ag):Prop where
  len:v.bp.length<=9223372036854775807
  src:∀c∈v.bp,Sq.pY c.az
  eps:∀c∈v.bp,∀e∈c.bF,e.b7.bJ.length<=9223372036854775807
theorem smallI(v:ag)(h:ArgI v):Ok (ie v) (λb=>b=true->IA v):=by
  have t:=h.len
  unfold ie
  refine HZ (P:=λo=>o= .inr false∨(o= .inl ()∧∀x∈v.bp,ChLen x)) (H5 (λs:Int=>∃i:Nat,s=i∧i<=v.bp.length∧∀x∈v.bp.take i,ChLen x) (λs=>((v.bp.length:Int)-s).toNat) ?_ ⟨0,rfl,EK _,zb⟩) (λo ho=>?_)
  · rintro s ⟨i,rfl,i1,i2⟩
    unfold iw
    refine Hc (λj=>?_) (λg=>?_)
    rotate_left
    · have:i=v.bp.length:=by omega
      subst this
      exact Hb (.inr ⟨rfl,by rw [pU]at i2;exact i2⟩)
    have hi:i<v.bp.length:=by omega
    have p:=h.eps _ (FB hi)
    rw [kp rfl hi,zd]
    refine Hc (λ_=>Hb (.inl rfl)) (λhle=>?_)
    rw [zd]
    refine HZ (P:=λo=>o= .inr false∨(o= .inl (i:Int)∧∀e∈v.bp[i].bF,iZ e.b7)) (H5 (λs:Int=>∃k:Nat,s=k∧k<=v.bp[i].bF.length∧∀e∈v.bp[i].bF.take k,iZ e.b7) (λs=>((v.bp[i].bF.length:Int)-s).toNat) ?_ ⟨0,rfl,EK _,zb⟩) (λo ho=>?_)
    · rintro s ⟨k,rfl,u,l⟩
      unfold iv
      refine Hc (λj=>?_) (λg=>?_)
      · have hk:k<v.bp[i].bF.length:=by omega
        rw [kp rfl hi,zd,kp rfl hk,zd,w64 za za]
        refine HZ (smallR _ (p _ (FB hk))) (λb c=>?_)
        refine IQ (λ_=>Hb (.inl rfl)) (λf=>H7 ⟨k+1,zb,za,λx a=>?_⟩ za)
        rw [tD hk]at a
        rcases List.mem_append.1 a with a|a
        · exact l x a
        · rw [List.mem_singleton.1 a];exact c f
      · have:k=v.bp[i].bF.length:=by omega
        subst this
        exact Hb (.inr ⟨rfl,by rw [pU]at l;exact l⟩)
    · rcases ho with rfl|⟨rfl,q⟩
      · exact Hb (.inl rfl)
      · dsimp only
        rw [w64 za za]
        refine H7 ⟨i+1,zb,za,λx a=>?_⟩ za
        rw [tD hi]at a
        rcases List.mem_append.1 a with a|a
        · exact i2 x a
        · rw [List.mem_singleton.1 a];exact⟨za,q⟩
  · rcases ho with rfl|⟨rfl,r⟩
    · exact H9 zb
    · refine H9 λc=>⟨⟨?_,r⟩,h.src⟩
      have:(v.bp.length:Int)<=10:=by simpa using c
      omega
noncomputable def ψ (v:ag) (p:Pick):bi:=(atR v p.az p.bS).1
noncomputable def φ (s:ai) (v:ag) (p:Pick):al:=((eO s v p).getD (⟨⟨0,0,0⟩,0,0,0⟩,⟨0,0,⟨0,0⟩,⟨0,0,0⟩,⟨[]⟩⟩,false)).1
noncomputable def U (s:ai) (v:ag) (p:Pick):Bool:=((eO s v p).getD (⟨⟨0,0,0⟩,0,0,0⟩,⟨0,0,⟨0,0⟩,⟨0,0,0⟩,⟨[]⟩⟩,false)).2.2
theorem sq{s:ai}(hs:pX s)(q:cr s=some 0){v:ag}(l:IA v){p:Pick}(hp:su p):∃(ep:bi)(ph:al),eO s v p=some (φ s v p,ep,U s v p)∧gN s v p=some (ph,U s v p)∧(U s v p=true->ep=ψ v p∧(φ s v p).bB=(ψ v p).bW∧φ s v p=ph∧PosP (φ s v p).bB∧0<=(φ s v p).bA∧((φ s v p).bA<=(φ s v p).bY∧(φ s v p).bY<=18014398509481984)∧(φ s v p).cC=1∧∃r,dI s.ae.bP s.ae.bt (φ s v p).bB=some r∧r.2.2=0):=by
  obtain⟨ok,ph,g,ep,f,e2, -,j⟩:=used_eq hs q l hp
  have k:U s v p=ok:=by unfold U;rw [f];rfl
  have t:φ s v p=ph:=by unfold φ;rw [f];rfl
  rw [k,t]
  refine⟨ep,g,f,e2,λh=>?_⟩
  obtain⟨a,b,c, -,d⟩:=j h
  exact⟨a,by rw [b,a];rfl,c,d⟩
theorem sorts_eq{l:List Pick}(a:l.length<=1000):∃r,mu l=some r∧kz l=some r∧r.length<=l.length∧∀x∈r,x∈l:=by
  obtain⟨r,p,t,f,u⟩:=Sort_eq a
  obtain⟨q,c,j,k⟩:=rn a
  have:q=r:=nK j t λx=>(k x).trans (f x).symm
  rw [this]at c
  exact⟨r,p,c,u,λx g=>(f x).1 g⟩
theorem gather_eq{s:ai}(hs:pX s)(r:cr s=some 0){v:ag}(j:IA v){x:List Pick}(t:∀p∈x,su p)(u:x.length<=1000):
    cI (im x s v) ((0:Int),[],[],[])=some (x.filter (U s v),(x.filter (U s v)).map (φ s v),(x.filter (U s v)).map (ψ v)):=by
  refine H0 ?_
  refine H5 (λst=>∃i:Nat,st=((i:Int),(x.take i).filter (U s v),((x.take i).filter (U s v)).map (φ s v),((x.take i).filter (U s v)).map (ψ v))∧i<=x.length) (λst=>((x.length:Int)-st.1).toNat) ?_ ⟨0,rfl,EK _⟩
  rintro st ⟨i,rfl,i1⟩
  unfold im
  dsimp only
  refine Hc (λq=>?_) (λk=>Hb (by rw [show i=x.length by omega,pU]))
  have hi:i<x.length:=by omega
  obtain⟨ep,ph,c, -,f⟩:=sq hs r j (t _ (FB hi))
  have hf:((x.take i).filter (U s v)).length<=1000:=EO (Hw _ _) so
  rw [kp rfl hi,zd,c,zd,w64 (n:=(i:Int)+1) za za]
  dsimp only
  cases a:U s v x[i]with
  |true=>
    obtain⟨rfl, -⟩:=f a
    have a1:∀{α:Type}(l:List α)(y:α)(n:Nat),l.length<=1000->n<=200->tE l [y] n=some (l++[y]):=λl y n h1 g=>by
      unfold tE
      rw [if_pos]
      have:=IK (show l.length+ [y].length<=1001 by simp;omega) g
      omega
    rw [if_pos rfl,a1 _ _ _ hf (by decide),zd,a1 _ _ _ (by rw [Fh];exact hf) (by decide),zd,a1 _ _ _ (by rw [Fh];exact hf) (by decide),zd]
    refine H7 ⟨i+1,?_,za⟩ zc
    rw [tD hi,Hr]
    simp [a]
  |false=>
    rw [if_neg zb]
    refine H7 ⟨i+1,?_,za⟩ zc
    rw [tD hi,Hr]
    simp [a]
theorem picks_eq{s:ai}(hs:pX s)(j:cr s=some 0){v:ag}(c:IA v){x:List Pick}(k:∀p∈x,su p)(l:x.length<=1000):
    cI (mf x s v) ((0:Int),[])=some (x.filter (U s v)):=by
  refine H0 ?_
  refine H5 (λst=>∃i:Nat,st=((i:Int),(x.take i).filter (U s v))∧i<=x.length) (λst=>((x.length:Int)-st.1).toNat) ?_ ⟨0,rfl,EK _⟩
  rintro st ⟨i,rfl,i1⟩
  unfold mf
  dsimp only
  refine Hc (λg=>?_) (λf=>Hb (by rw [show i=x.length by omega,pU]))
  have hi:i<x.length:=by omega
  obtain⟨ep,ph, -,e2, -⟩:=sq hs j c (k _ (FB hi))
  have hf:((x.take i).filter (U s v)).length<=1000:=EO (Hw _ _) so
  rw [tN za za,zd,kp rfl hi,zd,e2,zd,w64 (n:=(i:Int)+1) za za]
  dsimp only
  cases a:U s v x[i]with
  |true=>
    rw [if_pos rfl]
    have a1:tE ((x.take i).filter (U s v)) [x[i]] 104=some ((x.take i).filter (U s v)++[x[i]]):=by
      unfold tE
      rw [if_pos]
      have:=IK (show((x.take i).filter (U s v)).length+ [x[i]].length<=1001 by simp only [EZ,E0];omega) (EB 104)
      omega
    rw [a1,zd]
    refine H7 ⟨i+1,?_,za⟩ zc
    rw [tD hi,Hr]
    simp [a]
  |false=>
    rw [if_neg zb]
    refine H7 ⟨i+1,?_,za⟩ zc
    rw [tD hi,Hr]
    simp [a]
theorem est_loops(s:ai){v:ag}(q:IA v)(b:ak){L:List Pick}(E:L.length<=1000)(l:∀p∈L,(φ s v p).bB=(ψ v p).bW):∀d i:Nat,i+d=L.length->∀out:List bh,out.length<=i->
    (∀e∈out,e.bo<=e.ba)->
    ∃r,cI (d8 ⟨L,L.map (φ s v),L.map (ψ v)⟩ b s) ((i:Int),out)=some r∧cI (eT L v b s) ((i:Int),out)=some r∧r.length<=L.length∧∀e∈r,e.bo<=e.ba
  |0,i,hi,out,ho,j=>by
    refine⟨out,dE ?_,dE ?_,za,j⟩
    · unfold d8;dsimp only;rw [if_neg so]
    · unfold eT;dsimp only;rw [if_neg so]
  |d+1,i,hi,out,ho,j=>by
    have c:i<L.length:=by omega
    have hs:=l _ (FB c)
    obtain⟨n,n1,F,O,Q⟩:=near_eq b (ψ v L[i]).bW
    obtain⟨f,f1,f2,f3,f4⟩:=far_eq b (ψ v L[i]).bW
    obtain⟨x,y,K,N,z⟩:=station_eq s.bX (r:=(ψ v L[i]).b7) (atR_len q _ _) L[i].bG (a:=n) (b:=f) f4
    have k:tE out [x.1] 16=some (out++[x.1]):=by unfold tE;rw [if_pos (by simp only [EZ,E0];omega)]
    have B:d8 ⟨L,L.map (φ s v),L.map (ψ v)⟩ b s ((i:Int),out)=some (.next (((i+1:Nat):Int),if x.2=0 then out++[x.1]else out)):=by
      unfold d8
      dsimp only
      rw [if_pos so,kp (i:=i) rfl (by simpa using c),zd,kp (i:=i) rfl (by simpa using c),zd,kp rfl c,zd,Hu,Hu,hs,n1,zd,f1,zd,K,zd,w64 (n:=(i:Int)+1) za za,k]
      by_cases h:x.2=0
      · rw [if_pos (by simp [h]),if_pos h];rfl
      · rw [if_neg (by simp [h]),if_neg h];rfl
    have C:eT L v b s ((i:Int),out)=some (.next (((i+1:Nat):Int),if x.2=0 then out++[x.1]else out)):=by
      unfold eT
      dsimp only
      rw [if_pos so,kp rfl c,zd,refAt_any q,zd]
      show((kB b (ψ v L[i]).bW).bind λt=>(my b (ψ v L[i]).bW).bind λu=>(lW s.bX (ψ v L[i]).b7 L[i].bG t u).bind _)=_
      rw [F,zd,f2,zd,N,zd,w64 (n:=(i:Int)+1) za za]
      rcases z with⟨h,rfl, -⟩|⟨h,D⟩
      · rw [if_pos (by simp [h]),if_pos h,k];rfl
      · rw [if_neg (by simp [D]),if_neg h];rfl
    obtain ⟨r, G, H, I, J⟩ := est_loops s q b E l d (i + 1) za (if x.2 = 0 then out ++ [x.1] else out) (by split <;> (try simp) <;> omega) (λe he => by
      split at he
      · rename_i h
        rcases List.mem_append.1 he with he|he
        · exact j e he
        · rw [List.mem_singleton.1 he]
          rcases z with⟨-, -,g⟩|⟨g, -⟩
          · exact g
          · exact(g h).elim
      · exact j e he)
    exact⟨r,by rw [tv B,G],by rw [tv C,H],I,J⟩
def LS(l:List Pick):Prop:=l.length<=20∧∀p∈l,su p
theorem bent_ok(b:ak)(d:Src)(c:cO d):Ok (sw b d) (λr=>cO r.2):=by
  unfold sw
  refine HZ (fB _ d c zb zb) (λf h1=>HZ (eY _ _ h1.2 za za) (λg a=>?_))
  exact He (λ_=>H9 a.2.2) (λ_=>He (λ_=>H9 a.2.2) (λ_=>He (λ_=>H9 a.2.2) (λ_=>He (λ_=>H9 a.2.2) (λ_=>He (λ_=>H9 a.2.2) (λ_=>H9 a.2.2)))))
theorem sI(t:bc)(h1:t.bo.length<=1000)(p:t.ba.length<=1000)(d:Src)(g:cO d):Ok (lJ t d) (λr=>cO r.2):=by
  unfold lJ
  refine HZ (HY so) (λx j=>HZ (HY so) (λy l=>?_))
  simp only [List.nil_append]at j l
  subst j l
  refine He (λ_=>H9 g) (λn1=>He (λ_=>H9 g) (λq=>HZ (eY _ _ g za za) (λz c=>?_)))
  refine He (λ_=>HZ (fB _ _ c.2.2 zb zb) (λa f=>H9 f.2)) (λ_=>?_)
  refine He (λ_=>HZ (eY _ _ c.2.2 za za) (λk hk=>HZ (fB _ _ hk.2.2 zb zb) (λa f=>HZ (Hg za za) (λ_ _=>HZ (Ha za za) (λ_ _=>H9 f.2))))) (λ_=>?_)
  refine He (λ_=>HZ (eY _ _ c.2.2 za za) (λk hk=>HZ (fB _ _ hk.2.2 zb zb) (λa f=>HZ (Hg za za) (λ_ _=>HZ (Ha za za) (λ_ _=>H9 f.2))))) (λ_=>?_)
  refine He (λ_=>?_) (λ_=>He (λ_=>?_) (λ_=>?_))
  · rw [w64 za za]
    exact HZ (IP za za za) (λ_ _=>H9 c.2.2)
  · exact HZ (IP za za za) (λ_ _=>H9 c.2.2)
  · exact HZ (IP za za za) (λ_ _=>HZ (IP za za za) (λ_ _=>H9 c.2.2))
theorem bentSettings_ok(a:ai)(h1:a.ae.bP.bo.length<=1000)(g:a.ae.bP.ba.length<=1000)(j:a.bX.bN.bo.length<=1000)(k:a.bX.bN.ba.length<=1000)(d:Src)(l:cO d):Ok (k9 a d) (λr=>cO r.2):=by
  unfold k9
  refine HZ (eY _ _ l za za) (λx f=>?_)
  refine He (λ_=>HZ (bent_ok _ _ f.2.2) (λy c=>H9 c)) (λ_=>?_)
  refine He (λ_=>HZ (sI _ h1 g _ f.2.2) (λy c=>H9 c)) (λ_=>?_)
  refine He (λ_=>HZ (fB _ _ f.2.2 zb zb) (λy c=>H9 c.2)) (λ_=>?_)
  refine He (λ_=>HZ (fB _ _ f.2.2 zb zb) (λy c=>H9 c.2)) (λ_=>?_)
  refine He (λ_=>HZ (sI _ j k _ f.2.2) (λy c=>H9 c)) (λ_=>?_)
  exact HZ (fB _ _ f.2.2 zb zb) (λy c=>H9 c.2)
theorem smallS(s:ai):Ok (f8 s) (λ_=>True):=by
  have a:∀t,Ok (jp t) (λ_=>True):=λt=>by
    unfold jp;exact Hc (λ_=>H9 trivial) (λ_=>H9 trivial)
  have c:Ok (pc s.ae.bt) (λ_=>True):=by
    unfold pc
    exact Hc (λ_=>H9 trivial) (λ_=>Hc (λ_=>H9 trivial) (λ_=>Hc (λ_=>H9 trivial) (λ_=>Hc (λ_=>H9 trivial) (λ_=>Hc (λ_=>H9 trivial) (λ_=>Hc (λ_=>H9 trivial) (λ_=>Hc (λ_=>H9 trivial) (λ_=>Hc (λ_=>H9 trivial) (λ_=>Hc (λ_=>H9 trivial) (λ_=>Hc (λ_=>H9 trivial) (λ_=>Hc (λ_=>H9 trivial) (λ_=>Hc (λ_=>H9 trivial) (λ_=>H9 trivial))))))))))))
  unfold f8
  exact HZ (a _) (λ_ _=>H3 (λ_=>HZ (a _) (λ_ _=>H3 (λ_=>HZ c (λ_ _=>H9 trivial)) (λ_=>H9 trivial))) (λ_=>H9 trivial))
end Go.Dw.Ef
set_option maxRecDepth 100000
set_option maxHeartbeats 4000000
namespace Go.Dw.Ef
open Go.Dw Go.Proofs
theorem shiftG{α:Type}{out:List α}{z x:α}{k:Nat}(hk:k<=out.length):
    (we (out++[z]) (k+1) (out.length+1-(k+1)) (((out++[z]).drop k).take (out.length+1-k))).set k x=out.take k++x::out.drop k:=by
  have g:(out++[z]).drop k=out.drop k++[z]:=Ho hk
  have c:((out++[z]).drop k).take (out.length+1-k)=out.drop k++[z]:=by
    rw [g];exact IH so
  unfold we
  rw [c]
  have a:Nat.min (out.drop k++[z]).length (out.length+1-(k+1))=out.length-k:=by
    show min _ _=_
    simp
  rw [a]
  have j:(out.drop k++[z]).take (out.length-k)=out.drop k:=by
    rw [IF zb]
    exact IH zb
  have l:(out++[z]).drop (k+1+(out.length-k))=[]:=Hp so
  rw [j,l,GW]
  have f:(out++[z]).take (k+1)=out.take k++[(out++[z])[k]'so]:=by
    rw [tD so,IF hk]
  rw [f,ED,IC _ _ so]
  simp [FM hk]
theorem find32{l out:List Int}{i:Nat}(hi:i<l.length)(ho:out.length<=1000):Ok (cI (nn out l (i:Int)) (0:Int)) (λo=>∃k:Nat,o=((i:Int),(k:Int),out)∧k<=out.length∧(∀j,j<k->∀h:j<out.length,out[j]<l[i])∧∀h:k<out.length,l[i]<=out[k]):=by
  refine H5 (λst=>∃k:Nat,st=(k:Int)∧k<=out.length∧∀j,j<k->∀h:j<out.length,out[j]<l[i]) (λst=>((out.length:Int)-st).toNat) ?_ ⟨0,rfl,EK _,λj h=>za⟩
  rintro st ⟨k,rfl,c,a⟩
  unfold nn
  refine Hc (λp=>?_) (λf=>Hb ⟨k,rfl,c,a,λh=>za⟩)
  have hk:k<out.length:=by omega
  rw [tN za za,zd,kp rfl hk,zd,kp rfl hi,zd]
  refine Hc (λh=>?_) (λh=>Hb ⟨k,rfl,c,a,λ_=>za⟩)
  rw [w64 za za]
  refine H7 ⟨k+1,zb,za,λj q g=>?_⟩ za
  by_cases e:j=k
  · subst e;exact h
  · exact a j za g
theorem sorted32{l:List Int}(L:l.length<=1000):Ok (lx l) (λr=>r.Perm l∧r.Pairwise (· <= ·)):=by
  unfold lx
  rw [Hm]
  refine H5 (λst=>∃(i:Nat)(out:List Int),st=((i:Int),out)∧i<=l.length∧out.Perm (l.take i)∧out.Pairwise (· <= ·)) (λst=>((l.length:Int)-st.1).toNat) ?_ ⟨0,[],rfl,EK _,zb,zb⟩
  rintro st ⟨i,out,rfl,i1,i2,i3⟩
  have G:out.length=i:=by rw [i2.length_eq,FR];omega
  unfold pT
  dsimp only
  refine Hc (λF=>?_) (λE=>Hb ⟨by rw [IH za]at i2;exact i2,i3⟩)
  have hi:i<l.length:=by omega
  refine HZ (find32 (out:=out) hi za) (λo⟨k,ho,B,H,k3⟩=>?_)
  subst ho
  dsimp only
  rw [cu so,zd]
  have hlen:(out++[(0:Int)]).length=out.length+1:=by simp
  rw [w64 (n:=(k:Int)+1) za za,w64 (n:=(i:Int)+1) za za,hlen]
  rw [wq za za za,zd,wq za za za,zd]
  have t1:(0+((k:Int)+1).toNat)=k+1:=by omega
  have t2:(0+(((out.length+1:Nat):Int)).toNat)=out.length+1:=by omega
  have t3:(0+((k:Int)).toNat)=k:=by omega
  rw [t1,t2,t3,yL za za,zd,yE za za,zd,kp rfl hi,zd]
  have D:(we (out++[(0:Int)]) (k+1) (out.length+1-(k+1)) (((out++[(0:Int)]).drop k).take (out.length+1-k))).length=out.length+1:=by
    have:=congrArg HO (shiftG (z:=(0:Int)) (x:=l[i]) B)
    rw [Hx]at this
    rw [this]
    simp
    omega
  rw [tN za za,zd,vz (i:=k) rfl za,zd,shiftG B]
  have c:(out.take k++out.drop k).Pairwise (λx y:Int=>x<=y):=by rwa [IE]
  obtain⟨I,J,K⟩:=List.pairwise_append.1 c
  have p:∀y∈out.drop k,l[i]<=y:=λy t=>by
    obtain⟨j,q,rfl⟩:=HN t
    simp only [FQ]at q
    rw [Ht]
    have C:=k3 za
    by_cases e:j=0
    · subst e;exact C
    · have:=List.pairwise_iff_getElem.1 i3 k (k+j) za za za
      omega
  have f:∀y∈out.take k,y<=l[i]:=λy t=>by
    obtain⟨j,q,rfl⟩:=HN t
    simp only [FR]at q
    rw [Hv]
    have:=H j za za
    omega
  refine H7 ⟨i+1,_,rfl,za,?_,List.pairwise_append.2 ⟨I,List.pairwise_cons.2 ⟨p,J⟩,λa u b g=>?_⟩⟩ zc
  · rw [tD hi]
    refine List.perm_middle.trans ?_
    rw [IE]
    exact(List.Perm.cons _ i2).trans (Hy (l₁:=[l[i]]))
  · rcases List.mem_cons.1 g with rfl|g
    · exact f a u
    · exact K a u b g
theorem median_eq{l:List Int}(h1:1<=l.length)(g:l.length<=1000):∃m s,vp l=some s∧s.length=l.length∧s.getD ((l.length-1) / 2) 0=m∧mY l=some m:=by
  obtain⟨s,s1,s2,s3⟩:=BW (l:=l) za
  obtain⟨r,p,q,t⟩:=sorted32 g
  have e:r=s:=List.Perm.eq_of_pairwise (le:=λx y:Int=>x<=y) (λa b _ _ h1 f=>Int.le_antisymm h1 f) t s3 (q.trans s2.symm)
  subst e
  have c:=s2.length_eq
  refine⟨_,r,s1,c,rfl,?_⟩
  unfold mY
  rw [p,zd,w64 (n:=(l.length:Int)-1) za za]
  have j:um .i64 ((l.length:Int)-1) 2=some (((l.length-1) / 2:Nat):Int):=by
    unfold um
    rw [if_neg (by decide),HC za,w64 za za]
    congr 1;omega
  rw [j,zd,si (l:=r) (k:=(l.length-1) / 2) za,zd]
theorem med_at{l:List bh}(f:bh->Int)(g:List bh->(Int×List Int)->Option (pH (Int×List Int) (List Int)))
    (a:∀s1 s2,g l (s1,s2)=if(decide (s1<(l.length:Int)))=true then((py l s1).bind λk=>(tE s2 [f k] 8).bind λp=>some (.next ((GV .i64 (s1+(1:Int))),p)))else(some (.stop s2)))
    (q:l.length<=1000):cI (g l) ((0:Int),[])=some (l.map f):=by
  refine H0 ?_
  refine H5 (λst=>∃i:Nat,st=((i:Int),(l.take i).map f)∧i<=l.length) (λst=>((l.length:Int)-st.1).toNat) ?_ ⟨0,rfl,EK _⟩
  rintro st ⟨i,rfl,i1⟩
  rw [a]
  refine Hc (λj=>?_) (λc=>Hb (by rw [IH za]))
  have hi:i<l.length:=by omega
  rw [kp rfl hi,zd,cu so,zd,w64 za za]
  exact H7 ⟨i+1,by rw [tD hi,GL];rfl,za⟩ zc
theorem network_eq{l:List bh}(a:l.length<=1000)(h1:1<=l.length)(h:∀e∈l,e.bo<=e.ba):∃y,jT l=some (y,0)∧lV l=some (y,0):=by
  have c:((l.length:Int)==0)=false:=by simp;intro e;rw [e]at h1;simp at h1
  unfold jT lV
  rw [c]
  simp only [FD,if_false]
  have hc:dP l=some false:=by
    unfold dP fe
    have:cI (dQ l) (0:Int)=some (.inl ()):=by
      refine H0 ?_
      refine Hd l.length za (λ_=>True) trivial (λi c h1 _=>?_)
      unfold dQ jh
      refine Hc (λf=>?_) (λ_=>Hb rfl)
      obtain⟨x,u,hm⟩:=H2 (l:=l) c za
      rw [u,zd,zd,if_neg (by have:=h x hm.1;simp;omega),w64 za za]
      exact H7 ⟨⟨za,za⟩,trivial⟩ za
    rw [this];rfl
  rw [hc]
  have t:cI (jW l) ((0:Int),[],[])=some (.inl (l.map (·.bo),l.map (·.ba))):=by
    refine H0 ?_
    refine H5 (λst=>∃i:Nat,st=((i:Int),(l.take i).map (·.bo),(l.take i).map (·.ba))∧i<=l.length) (λst=>((l.length:Int)-st.1).toNat) ?_ ⟨0,rfl,EK _⟩
    rintro st ⟨i,rfl,i1⟩
    unfold jW
    dsimp only
    refine Hc (λf=>?_) (λp=>Hb (by rw [IH za]))
    have hi:i<l.length:=by omega
    have r:=h _ (FB hi)
    simp only [kp (n:=(i:Int)) rfl hi,zd]
    rw [if_neg so,cu so,zd,cu so,zd,w64 za za]
    exact H7 ⟨i+1,by rw [tD hi,GL,GL];rfl,za⟩ zc
  rw [t]
  obtain⟨m1,s1,a1,a2,a3,a4⟩:=median_eq (l:=l.map (·.bo)) (by simpa using h1) (by simpa using a)
  obtain⟨m2,s2,b1,b2,g,j⟩:=median_eq (l:=l.map (·.ba)) (by simpa using h1) (by simpa using a)
  have q:∀n:Nat,1<=n->n<=1000->um .i64 (GV .i64 ((n:Int)-(1:Int))) (2:Int)=some (((n-1) / 2:Nat):Int):=λn h1 z=>by
    rw [w64 (n:=(n:Int)-1) za za]
    unfold um
    rw [if_neg (by decide),HC za,w64 za za]
    congr 1;omega
  rw [Fh]at a2 a3 b2 g
  simp only [zd,FD,if_false,a4,j]
  unfold jL jM
  have e2:cI (fg l) ((0:Int),[])=some (l.map (·.bo)):=med_at (·.bo) fg (λ_ _=>rfl) a
  have k:cI (fh l) ((0:Int),[])=some (l.map (·.ba)):=med_at (·.ba) fh (λ_ _=>rfl) a
  rw [e2,k]
  simp only [zd,a1,b1,a2,b2,q l.length h1 a]
  rw [tN za za,tN za za,si (l:=s1) za,si (l:=s2) za,a3,g]
  exact⟨_,rfl,rfl⟩
end Go.Dw.Ef
set_option maxRecDepth 100000
set_option maxHeartbeats 4000000
namespace Go.Dw.Ef
open Go.Dw Go.Proofs
abbrev Sub(r b:ak):Prop:=(r.bo.fX<=b.bo.fX∧b.bo.fX<=b.ba.fX∧b.ba.fX<=r.ba.fX)∧(r.bo.fY<=b.bo.fY∧b.bo.fY<=b.ba.fY∧b.ba.fY<=r.ba.fY)∧(r.bo.fZ<=b.bo.fZ∧b.bo.fZ<=b.ba.fZ∧b.ba.fZ<=r.ba.fZ)
theorem Sub.ok{r b:ak}(a:BoxP r)(h:Sub r b):BoxP b:=by
  obtain⟨⟨g,j,k⟩,⟨g1,g2,g3⟩,s⟩:=a
  obtain⟨h1,c,f⟩:=h
  exact⟨⟨za,za,za⟩,⟨za,za,za⟩,za,za,za⟩
theorem Sub.refl{r:ak}(a:BoxP r):Sub r r:=by
  obtain⟨-, -,s⟩:=a
  exact⟨za,za,za⟩
def nr(b:ak)(p:aa):Int:=ne p.fX b.bo.fX b.ba.fX*ne p.fX b.bo.fX b.ba.fX+ne p.fY b.bo.fY b.ba.fY*ne p.fY b.bo.fY b.ba.fY+ne p.fZ b.bo.fZ b.ba.fZ*ne p.fZ b.bo.fZ b.ba.fZ
def fr(b:ak)(p:aa):Int:=fa p.fX b.bo.fX b.ba.fX*fa p.fX b.bo.fX b.ba.fX+fa p.fY b.bo.fY b.ba.fY*fa p.fY b.bo.fY b.ba.fY+fa p.fZ b.bo.fZ b.ba.fZ*fa p.fZ b.bo.fZ b.ba.fZ
theorem near_val{b:ak}{p:aa}(c:BoxP b)(hp:PosP p):fN b p=some (nr b p)∧kB b p=some (nr b p)∧0<=nr b p∧nr b p<=13194139533312:=by
  unfold fN fI kB nr
  rw [Hm,jJ,jk,zd,zd,n5,nJ,if_neg (by simp [c]),if_neg (by simp [c]),zd,zd,if_neg (by simp [hp]),if_neg (by simp [hp])]
  obtain⟨⟨z,B,C⟩,⟨g1,g2,g3⟩,s1,s2,s3⟩:=c
  obtain⟨D,E,F⟩:=hp
  obtain⟨g,j,k,l⟩:=near1 (x:=p.fX) (lo:=b.bo.fX) (hi:=b.ba.fX) za za za s1
  obtain⟨q,r,t,u⟩:=near1 (x:=p.fY) (lo:=b.bo.fY) (hi:=b.ba.fY) za za za s2
  obtain⟨y,z2,z3,z4⟩:=near1 (x:=p.fZ) (lo:=b.bo.fZ) (hi:=b.ba.fZ) za za za s3
  have G:=qJ ⟨k,l⟩;have H:=qJ ⟨t,u⟩;have sz:=qJ ⟨z3,z4⟩
  unfold cb eS
  simp only [zd,g,j,q,r,y,z2]
  generalize ne p.fX b.bo.fX b.ba.fX=nx at*
  generalize ne p.fY b.bo.fY b.ba.fY=a at*
  generalize ne p.fZ b.bo.fZ b.ba.fZ=f at*
  rw [w64 (n:=nx*nx) za za,w64 (n:=a*a) za za,w64 (n:=f*f) za za,HH,w64 (n:=nx*nx) za za,w64 (n:=nx*nx+a*a) za za,w64 za za]
  exact⟨rfl,rfl,za,za⟩
theorem far_val{b:ak}{p:aa}(c:BoxP b)(hp:PosP p):je b p=some (fr b p)∧my b p=some (fr b p)∧0<=fr b p∧fr b p<=13194139533312:=by
  unfold je fy my fr
  rw [Hm,jJ,jk,zd,zd,n5,nJ,if_neg (by simp [c]),if_neg (by simp [c]),zd,zd,if_neg (by simp [hp]),if_neg (by simp [hp])]
  obtain⟨⟨z,B,C⟩,⟨g1,g2,g3⟩,s1,s2,s3⟩:=c
  obtain⟨D,E,F⟩:=hp
  obtain⟨g,j,k,l⟩:=far1 (x:=p.fX) (lo:=b.bo.fX) (hi:=b.ba.fX) za za za
  obtain⟨q,r,t,u⟩:=far1 (x:=p.fY) (lo:=b.bo.fY) (hi:=b.ba.fY) za za za
  obtain⟨y,z2,z3,z4⟩:=far1 (x:=p.fZ) (lo:=b.bo.fZ) (hi:=b.ba.fZ) za za za
  have G:=qJ ⟨k,l⟩;have H:=qJ ⟨t,u⟩;have sz:=qJ ⟨z3,z4⟩
  unfold cb eS
  simp only [zd,g,j,q,r,y,z2]
  generalize fa p.fX b.bo.fX b.ba.fX=nx at*
  generalize fa p.fY b.bo.fY b.ba.fY=a at*
  generalize fa p.fZ b.bo.fZ b.ba.fZ=f at*
  rw [w64 (n:=nx*nx) za za,w64 (n:=a*a) za za,w64 (n:=f*f) za za,HH,w64 (n:=nx*nx) za za,w64 (n:=nx*nx+a*a) za za,w64 za za]
  exact⟨rfl,rfl,za,za⟩
theorem pq{a b:Int}(c:0<=a)(h:a<=b):a*a<=b*b:=Gr h h c za
theorem fa_mono{x lo hi c a:Int}(h1:lo<=c)(f:c<=a)(g:a<=hi):0<=fa x c a∧fa x c a<=fa x lo hi:=by
  unfold fa;constructor<;>split<;>(try split)<;>omega
theorem ne_fa{x lo hi:Int}(h:lo<=hi):0<=ne x lo hi∧ne x lo hi<=fa x lo hi:=by
  unfold ne fa;constructor<;>split<;>(try split)<;>(try split)<;>omega
theorem fr_mono{r b:ak}(h:Sub r b)(p:aa):fr b p<=fr r p:=by
  obtain⟨⟨a1,a2,a3⟩,⟨b1,b2,a⟩,c,f,g⟩:=h
  obtain⟨j,k⟩:=fa_mono (x:=p.fX) a1 a2 a3
  obtain⟨l,q⟩:=fa_mono (x:=p.fY) b1 b2 a
  obtain⟨z0,t⟩:=fa_mono (x:=p.fZ) c f g
  have:=pq j k;have:=pq l q;have:=pq z0 t
  unfold fr;omega
theorem nr_fr{b:ak}(a:BoxP b)(p:aa):nr b p<=fr b p:=by
  obtain⟨-, -,s1,s2,s3⟩:=a
  obtain⟨c,f⟩:=ne_fa (x:=p.fX) s1
  obtain⟨g,j⟩:=ne_fa (x:=p.fY) s2
  obtain⟨z0,k⟩:=ne_fa (x:=p.fZ) s3
  have:=pq c f;have:=pq g j;have:=pq z0 k
  unfold nr fr;omega
theorem ceil_min{n:Int}(c:0<=n)(h1:n<=70368744177664):∃r,fM n=some r∧0<=r∧n<=r*r∧∀s,0<=s->n<=s*s->r<=s:=by
  obtain⟨x,g,p,a⟩:=ss c h1
  have l:=tn a.2.1 h1
  obtain⟨g0,g1,g2⟩:=a
  have f:0<=x*x:=Gs g0 g0
  unfold fM
  rw [g,zd,w64 (n:=x*x) za za,w64 (n:=x+1) za za]
  have lt:∀s,0<=s->x*x<s*s->x<s:=λs s0 hs=>by
    apply Hn
    intro h
    have:=pq s0 (show s<=x by omega)
    omega
  by_cases h:x*x<n
  · rw [if_pos (by simpa using h)]
    exact⟨_,rfl,za,Gl g2,λs s0 hs=>by have:=lt s s0 za;omega⟩
  · rw [if_neg (by simpa using h)]
    refine⟨_,rfl,g0,za,λs s0 hs=>?_⟩
    apply Hn
    intro hc
    have j:s*s<=(x-1)*(x-1):=pq s0 za
    have k:(x-1)*(x-1)=x*x-2*x+1:=by rw [Int.sub_mul,Int.mul_sub];omega
    omega
theorem between_err{t:bc}(j:qL t){n f:Int}(x:0<=n)(h1:n<=f)(q:f<=13194139533312):∃r c,fq t n f=some r∧fM f=some c∧(r.2.2=0↔c<=t.b9*((t.bo.length:Int)-1)):=by
  obtain⟨r,g,B⟩:=between_eq t (a:=n) q
  obtain⟨c,k, -⟩:=ceil_min (n:=f) za za
  refine⟨r,c,g,k,?_⟩
  have z:=j.len;have u:=j.step
  have y:0<=t.b9*((t.bo.length:Int)-1)∧t.b9*((t.bo.length:Int)-1)<=1048576*256:=⟨Gs za za,Gr za za za za⟩
  unfold fq at g
  rcases lC t with⟨p, -, -⟩|⟨-, -,h⟩
  rotate_left
  · exact(h j).elim
  have g1:¬n<0:=by omega
  have g2:¬n>f:=by omega
  unfold ol at g
  rw [p,k]at g
  simp only [zd,bne_self_eq_false,FD,if_false,g1,g2,decide_false]at g
  rw [w64 (n:=(t.bo.length:Int)-1) za za,w64 (n:=t.b9*((t.bo.length:Int)-1)) za za]at g
  by_cases l:c>t.b9*((t.bo.length:Int)-1)
  · simp only [l,decide_true,if_true]at g
    rw [<-Fg g]
    exact⟨λh=>by simp at h,λh=>za⟩
  · simp only [l,decide_false,FD,if_false]at g
    refine⟨λ_=>za,λ_=>?_⟩
    obtain⟨a, -,g⟩:=Option.bind_eq_some_iff.1 g
    obtain⟨a, -,g⟩:=Option.bind_eq_some_iff.1 g
    obtain⟨a, -,g⟩:=Option.bind_eq_some_iff.1 g
    obtain⟨a, -,g⟩:=Option.bind_eq_some_iff.1 g
    obtain⟨a, -,g⟩:=Option.bind_eq_some_iff.1 g
    rw [<-Fg g]
structure PhP(q:aj)(a:al):Prop where
  pos:PosP a.bB
  early:0<=a.bA
  late:a.bA<=a.bY∧a.bY<=18014398509481984
  wt:1<=a.cC∧a.cC<=100
  reach:∃r,dI q.bP q.bt a.bB=some r∧r.2.2=0
structure PVR(q:aj):Prop where
  box:BoxP q.bt
  tab:qL q.bP
  len:1<=q.cB.length∧q.cB.length<=64
  cap:1<=q.eV∧q.eV<=1099511627776
  all:∀a∈q.cB,PhP q a
theorem sY{t:bc}(g:qL t){b:ak}(f:BoxP b){p:aa}(hp:PosP p):∃r c,dI t b p=some r∧fk t b p=some r∧fM (fr b p)=some c∧(r.2.2=0↔c<=t.b9*((t.bo.length:Int)-1)):=by
  obtain⟨r,a,q, -⟩:=pb g b p
  obtain⟨n1,u,l,x⟩:=near_val f hp
  obtain⟨f1,f2,f3,f4⟩:=far_val f hp
  obtain⟨y,c,b1,b2,j⟩:=between_err g l (nr_fr f p) f4
  refine⟨r,c,a,q,b2,?_⟩
  unfold dI at a
  rcases lC t with⟨k, -, -⟩|⟨-, -,h⟩
  rotate_left
  · exact(h g).elim
  rw [k,jJ,n5,decide_eq_true f,decide_eq_true hp]at a
  simp only [zd,bne_self_eq_false,FD,if_false,HV]at a
  unfold lK at a
  rw [n1,f1]at a
  simp only [zd]at a
  rw [b1,zd]at a
  rw [<-Fg a];exact j
def T54(t:Int):Prop:= -18014398509481984<=t∧t<=18014398509481984
def ZR(z:bC):Prop:=T54 z.ck∧T54 z.fTo
theorem interval_rng{t:bc}(k:qL t){b:ak}(f:BoxP b){p:aa}(hp:PosP p){r:Int×Int×Int}(c:dI t b p=some r)(j:r.2.2=0):0<=r.1∧r.1<=r.2.1∧r.2.1<=1099511627776:=by
  unfold dI at c
  rcases lC t with⟨g, -, -⟩|⟨-, -,h⟩
  rotate_left
  · exact(h k).elim
  obtain⟨n1, -,u,y⟩:=near_val f hp
  obtain⟨f1, -,f3,f4⟩:=far_val f hp
  obtain⟨x,l, -,q⟩:=p9 t (a:=nr b p) f4
  rw [g,jJ,n5,decide_eq_true f,decide_eq_true hp]at c
  unfold lK at c
  simp only [zd,bne_self_eq_false,FD,if_false,HV,n1,f1,l,EC]at c
  subst c
  exact q j
theorem zone_eq{q:aj}(g:PVR q){b:ak}(l:Sub q.bt b){a:al}(f:PhP q a):∃z,jd q.bP b a=some (z,0)∧qq q.bP b a=some (z,0)∧ZR z:=by
  have j:=l.ok g.box
  obtain⟨r,c,u,J,K,L⟩:=sY g.tab j f.pos
  obtain⟨Y,x,E, -,k3,F⟩:=sY g.tab g.box f.pos
  obtain⟨I,t,G⟩:=f.reach
  rw [E]at t
  obtain rfl:=Fg t
  have B:=F.1 G
  have hm:=fr_mono l a.bB
  obtain⟨-, -,f3,f4⟩:=far_val j f.pos
  obtain⟨-, -,g3,g4⟩:=far_val g.box f.pos
  obtain⟨m,m1,m2,m3,m4⟩:=ceil_min (n:=fr b a.bB) f3 za
  obtain⟨N,n1,H,O,Q⟩:=ceil_min (n:=fr q.bt a.bB) g3 za
  rw [K]at m1;obtain rfl:=Fg m1
  rw [k3]at n1;obtain rfl:=Fg n1
  have C:=m4 x H za
  have p:=L.2 za
  have D:(r.2.2 != 0)=false:=by simp [p]
  have he:=f.early;have k:=f.late;have hw:=f.wt
  unfold jd qq
  rcases lC q.bP with⟨y,e2, -⟩|⟨-, -,h⟩
  rotate_left
  · exact(h g.tab).elim
  have v1:io a=some true:=by
    unfold io
    rw [n5,decide_eq_true f.pos,zd,if_pos rfl,if_pos (by simpa using he),if_pos (by simpa using k.1),if_pos (by simpa using k.2),if_pos (by simpa using hw.1)]
    simpa using hw.2
  have v2:dR a=some true:=by
    unfold dR
    rw [nJ,decide_eq_true f.pos,zd,if_pos rfl,if_pos (by simpa using he),if_pos (by simpa using k.1),if_pos (by simpa using k.2),if_pos (by simpa using hw.1)]
    simpa using hw.2
  rw [y,e2,jJ,jk,decide_eq_true j,v1,v2,u,J]
  simp only [zd,bne_self_eq_false,FD,if_false,HV,D]
  obtain⟨T,W,X⟩:=interval_rng g.tab j f.pos u p
  refine⟨_,rfl,rfl,?_,?_⟩
  · dsimp only
    rw [w64 za za]
    constructor<;>omega
  · dsimp only
    rw [w64 za za]
    constructor<;>omega
theorem pvalid_eq{q:aj}(c:PVR q):jr q=some 0∧kH q=some 0:=by
  have f:=c.len;have hc:=c.cap
  unfold jr kH
  rcases lC q.bP with⟨t,e2, -⟩|⟨-, -,h⟩
  rotate_left
  · exact(h c.tab).elim
  rw [jJ,jk,decide_eq_true c.box,t,e2]
  have g0:((q.cB.length:Int)==0)=false:=by simp;intro h;rw [h]at f;simp at f
  have g1:¬(q.cB.length:Int)>64:=by omega
  have g2:¬q.eV<1:=by omega
  have g3:¬q.eV>1099511627776:=by omega
  simp only [zd,bne_self_eq_false,FD,if_false,HV,g0,g1,g2,g3,decide_false]
  have a1:cI (ig q) (0:Int)=some (.inl ()):=by
    refine H0 (Hd q.cB.length za (λ_=>True) trivial (λi g h1 _=>?_))
    unfold ig
    refine Hc (λk=>?_) (λ_=>Hb rfl)
    refine HZ (H2 g za) (λa j=>?_)
    obtain⟨z,B, -⟩:=zone_eq c (Sub.refl c.box) (c.all a j.1)
    rw [B,zd,if_neg zb,w64 za za]
    exact H7 ⟨⟨za,za⟩,trivial⟩ za
  have a2:cI (jl q) (0:Int)=some (.inl ()):=by
    refine H0 (Hd q.cB.length za (λ_=>True) trivial (λi g h1 _=>?_))
    unfold jl
    refine Hc (λk=>?_) (λ_=>Hb rfl)
    obtain⟨a,j,hm, -⟩:=H2 (l:=q.cB) g za
    have hp:=c.all a hm
    have he:=hp.early;have f:=hp.late;have hw:=hp.wt
    have v2:dR a=some true:=by
      unfold dR
      rw [nJ,decide_eq_true hp.pos,zd,if_pos rfl,if_pos (by simpa using he),if_pos (by simpa using f.1),if_pos (by simpa using f.2),if_pos (by simpa using hw.1)]
      simpa using hw.2
    obtain⟨r,x,y, -⟩:=pb c.tab q.bt a.bB
    obtain⟨C,p,u⟩:=hp.reach
    rw [x]at p
    obtain rfl:=Fg p
    rw [j,zd,v2,zd,if_neg zb,zd,y,zd,if_neg (by simp [u]),w64 za za]
    exact H7 ⟨⟨za,za⟩,trivial⟩ za
  rw [a1,a2]
  exact⟨rfl,rfl⟩
theorem within_eq{q:aj}(c:PVR q){b:ak}(g:Sub q.bt b):l7 b q.bt=some true∧oh b q.bt=some true:=by
  have a:=g.ok c.box
  obtain⟨h1,k,l⟩:=id g
  have f:∀p:aa,PosP p->(q.bt.bo.fX<=p.fX∧p.fX<=q.bt.ba.fX)->(q.bt.bo.fY<=p.fY∧p.fY<=q.bt.ba.fY)->(q.bt.bo.fZ<=p.fZ∧p.fZ<=q.bt.ba.fZ)->gC q.bt p=some true∧kA q.bt p=some true:=λp hp r t k3=>by
    have j:nr q.bt p=0:=by
      unfold nr ne
      rw [if_neg za,if_neg za,if_neg za,if_neg za,if_neg za,if_neg za];rfl
    unfold gC kA
    rw [jJ,jk,decide_eq_true c.box,n5,decide_eq_true hp,(near_val c.box hp).1,j]
    simp only [zd,if_true]
    rw [if_pos so,if_pos so,if_pos so,if_pos so,if_pos so]
    refine⟨rfl,?_⟩
    simp;omega
  obtain⟨a1,a2⟩:=f b.bo a.1 za za za
  obtain⟨b1,b2⟩:=f b.ba a.2.1 za za za
  unfold l7 oh
  rw [jJ,jk,decide_eq_true a,a1,a2,b1,b2]
  exact⟨rfl,rfl⟩
theorem zones_eq{q:aj}(c:PVR q){b:ak}(p:Sub q.bt b):∃zs,ll q b=some (zs,0)∧mA q b=some (zs,0)∧zs.length=q.cB.length∧∀z∈zs,ZR z:=by
  obtain⟨v1,v2⟩:=pvalid_eq c
  obtain⟨x,B⟩:=within_eq c p
  have hlen:=c.len
  have key:∀d i:Nat,i+d=q.cB.length->∀out:List bC,out.length=i->(∀z∈out,ZR z)->∃zs,cI (fV q b) ((i:Int),out)=some (.inl zs)∧cI (gt q b) ((i:Int),out)=some zs∧zs.length=q.cB.length∧∀z∈zs,ZR z:=by
    intro d
    induction d with
    |zero=>
      intro i hi out ho k
      refine⟨out,dE ?_,dE ?_,za,k⟩
      · unfold fV;dsimp only;rw [if_neg so]
      · unfold gt;dsimp only;rw [if_neg so]
    |succ d u=>
      intro i hi out ho k
      have a:i<q.cB.length:=by omega
      obtain⟨z,C,z2,z3⟩:=zone_eq c p (c.all _ (FB a))
      have l:tE out [z] 16=some (out++[z]):=by unfold tE;rw [if_pos (by simp only [EZ,E0];omega)]
      have t:fV q b ((i:Int),out)=some (.next (((i+1:Nat):Int),out++[z])):=by
        unfold fV;dsimp only
        rw [if_pos so,kp rfl a,zd,C,zd,if_neg zb,l,zd,w64 za za];rfl
      have e2:gt q b ((i:Int),out)=some (.next (((i+1:Nat):Int),out++[z])):=by
        unfold gt;dsimp only
        rw [if_pos so,kp rfl a,zd,z2,zd,l,zd,w64 za za];rfl
      obtain ⟨zs, g, j, k3⟩ := u (i + 1) za (out ++ [z]) so (λy f => by
        rcases List.mem_append.1 f with f|f
        · exact k y f
        · rw [List.mem_singleton.1 f];exact z3)
      exact⟨zs,by rw [tv t,g],by rw [tv e2,j],k3⟩
  obtain⟨zs,g,j,k3⟩:=key q.cB.length 0 za [] rfl zb
  have r:((0:Nat):Int)=0:=rfl
  rw [r]at g j
  refine⟨zs,?_,?_,k3⟩
  · unfold ll qg
    have hm:zr (0:Int) (q.cB.length:Int) (bC.mk 0 0) 16=some []:=by
      unfold zr
      rw [if_pos za];rfl
    rw [v1,x,hm]
    simp only [zd,bne_self_eq_false,FD,if_false,HV,g]
  · unfold mA
    rw [v2,B]
    simp only [zd,bne_self_eq_false,FD,if_false,HV,j]
end Go.Dw.Ef
set_option maxRecDepth 100000
set_option maxHeartbeats 4000000
namespace Go.Dw.Ef
open Go.Dw Go.Proofs
theorem res_eq(z:bC)(t:Int):∃r,eW z t=some r∧kG z t=some r:=by
  unfold eW kG
  generalize GV .i64 (t-z.fTo)=A
  generalize GV .i64 (z.ck-t)=B
  refine⟨_,rfl,congrArg some ?_⟩
  split<;>split<;>(try split)<;>(try split)<;>omega
theorem cost_eq{q:aj}{zs:List bC}(y:zs.length=q.cB.length)(k:zs.length<=1000)(t:Int):∃r,ko q zs t=some r∧kF q zs t=some r:=by
  have key:∀d i:Nat,i+d=zs.length->∀s:Int,∃r,cI (gr q zs t) (s,(i:Int))=some r∧cI (jI zs q t) (s,(i:Int))=some r:=by
    intro d
    induction d with
    |zero=>
      intro i hi s
      refine⟨s,dE ?_,dE ?_⟩
      · unfold gr;dsimp only;rw [if_neg so]
      · unfold jI;dsimp only;rw [if_neg so]
    |succ d l=>
      intro i hi s
      have h1:i<zs.length:=by omega
      have f:i<q.cB.length:=by omega
      obtain⟨x,p,u⟩:=res_eq zs[i] t
      have j:gr q zs t (s,(i:Int))=some (.next ((GV .i64 (s+(GV .i64 (q.cB[i].cC*(if x<q.eV then x else q.eV))))),((i+1:Nat):Int))):=by
        unfold gr;dsimp only
        rw [if_pos so,kp rfl f,zd,if_pos so,kp rfl h1,zd,p,zd,w64 (n:=(i:Int)+1) za za];rfl
      have e2:jI zs q t (s,(i:Int))=some (.next ((GV .i64 (s+(GV .i64 (q.cB[i].cC*(if x<q.eV then x else q.eV))))),((i+1:Nat):Int))):=by
        unfold jI;dsimp only
        rw [if_pos so,kp rfl f,zd,kp rfl h1,zd,u,zd,w64 (n:=(i:Int)+1) za za];rfl
      obtain⟨r,a,c⟩:=l (i+1) za (GV .i64 (s+(GV .i64 (q.cB[i].cC*(if x<q.eV then x else q.eV)))))
      exact⟨r,by rw [tv j,a],by rw [tv e2,c]⟩
  obtain⟨r,a,c⟩:=key zs.length 0 za 0
  have g:((0:Nat):Int)=0:=rfl
  rw [g]at a c
  unfold ko kF
  exact⟨r,by rw [a];rfl,by rw [c];rfl⟩
def gh(zs:List bC):List Int:=zs.flatMap λz=>[z.ck,z.fTo]
theorem sP(zs:List bC):(gh zs).length=2*zs.length:=by
  induction zs with
  |nil=>rfl
  |cons z zs a=>simp only [gh,List.flatMap_cons,F0,EZ,E0]at*;omega
theorem endsL_get(zs:List bC)(i:Nat)(h:i<zs.length):(gh zs)[2*i]? =some zs[i].ck∧(gh zs)[2*i+1]? =some zs[i].fTo:=by
  induction zs generalizing i with
  |nil=>simp at h
  |cons z zs c=>
    cases i with
    |zero=>exact⟨rfl,rfl⟩
    |succ i=>
      have hi:i<zs.length:=by simpa using h
      obtain⟨a,b⟩:=c i hi
      have e:gh (z::zs)=z.ck::z.fTo::gh zs:=rfl
      rw [e,show 2*(i+1)=2*i+1+1 by omega,show 2*i+1+1+1=(2*i+1)+1+1 by omega,EU,EU,EU,EU]
      exact⟨a,b⟩
def gl(c:Int->Int)(s:Int×Int)(t:Int):Int×Int:=if c t<s.2 then(t,c t)else if c t=s.2 then(if t<s.1 then(t,c t)else s)else s
theorem better_mem(c:Int->Int):∀(l:List Int)(s:Int×Int),(l.foldl (gl c) s).1∈s.1::l
  | [],_=>by simp
  |x::l,s=>by
    have h:=better_mem c l (gl c s x)
    have a:(gl c s x).1=s.1∨(gl c s x).1=x:=by
      unfold gl
      split
      · exact .inr rfl
      · split
        · split
          · exact .inr rfl
          · exact .inl rfl
        · exact .inl rfl
    rw [Hs]
    rcases List.mem_cons.1 h with h|h
    · rw [h]
      rcases a with e|e<;>rw [e]<;>simp
    · simp [h]
theorem best_eq{q:aj}{zs:List bC}(X:zs.length=q.cB.length)(T:1<=zs.length)(E:zs.length<=1000):∃r,nR q zs=some r∧oQ q zs=some r∧((∀z∈zs,ZR z)->T54 r.1):=by
  have F:∀t,∃r,ko q zs t=some r∧kF q zs t=some r:=λt=>cost_eq X E t
  have Y:zs≠ []:=by intro e;subst e;simp at T
  let c:Int->Int:=λt=>(F t).choose
  have u:∀t,ko q zs t=some (c t):=λt=>(F t).choose_spec.1
  have a:∀t,kF q zs t=some (c t):=λt=>(F t).choose_spec.2
  clear_value c
  have K:=sP zs
  have kT:∀d i:Nat,i+d=zs.length->∀o:List Int,o=gh (zs.take i)->cI (iy zs) ((i:Int),o)=some (gh zs):=by
    intro d
    induction d with
    |zero=>
      intro i hi o ho
      rw [ho,show i=zs.length by omega,IG]
      apply dE
      unfold iy;dsimp only;rw [if_neg zb]
    |succ d C=>
      intro i hi o ho
      have h1:i<zs.length:=by omega
      have a5:o.length<=2000:=by rw [ho,sP,FR];omega
      have j:iy zs ((i:Int),o)=some (.next (((i+1:Nat):Int),o++[zs[i].ck,zs[i].fTo])):=by
        unfold iy;dsimp only
        have W:tE o [zs[i].ck,zs[i].fTo] 8=some (o++[zs[i].ck,zs[i].fTo]):=by unfold tE;rw [if_pos (by simp only [EZ,E0];omega)]
        rw [if_pos so,kp rfl h1,zd,W,zd,w64 za za];rfl
      rw [tv j]
      refine C (i+1) za _ ?_
      rw [ho,tD h1]
      unfold gh
      rw [List.flatMap_append];rfl
  have D:=kT zs.length 0 za [] (by simp [gh])
  have kL:∀d i:Nat,i+d=2*zs.length-1->∀s:Int×Int,cI (gq ((2*zs.length-1:Nat):Int) (gh zs) q zs) (s.1,s.2,(i:Int))=some (((gh zs).drop (i+1)).foldl (gl c) s):=by
    intro d
    induction d with
    |zero=>
      intro i hi s
      rw [Hq za]
      apply dE
      unfold gq;dsimp only;rw [if_neg so];rfl
    |succ d C=>
      intro i hi s
      have x:i+1<(gh zs).length:=by omega
      have j:gq ((2*zs.length-1:Nat):Int) (gh zs) q zs (s.1,s.2,(i:Int))=some (.next ((gl c s (gh zs)[i+1]).1,(gl c s (gh zs)[i+1]).2,((i+1:Nat):Int))):=by
        unfold gq;dsimp only
        rw [if_pos so,Ci za so zb,zd,kp (i:=i+1) so x,zd,u,zd,w64 (n:=(i:Int)+1) za za]
        unfold gl
        by_cases g1:c (gh zs)[i+1]<s.2
        · rw [if_pos (by simpa using g1),if_pos g1];rfl
        · rw [if_neg (by simpa using g1),if_neg g1]
          by_cases g2:c (gh zs)[i+1]=s.2
          · rw [if_pos (by simpa using g2),if_pos g2]
            by_cases g3:(gh zs)[i+1]<s.1
            · rw [if_pos (by simpa using g3),if_pos g3];rfl
            · rw [if_neg (by simpa using g3),if_neg g3];rfl
          · rw [if_neg (by simpa using g2),if_neg g2];rfl
      rw [tv j,C (i+1) za,HI x,Hs]
  have kR:∀d i:Nat,i+d=zs.length->∀s:Int×Int,cI (iF zs q) (s.1,s.2,(i:Int))=some (((gh zs).drop (2*i)).foldl (gl c) s):=by
    intro d
    induction d with
    |zero=>
      intro i hi s
      rw [Hq za]
      apply dE
      unfold iF;dsimp only;rw [if_neg so];rfl
    |succ d C=>
      intro i hi s
      have h1:i<zs.length:=by omega
      obtain⟨g0,g1⟩:=endsL_get zs i h1
      obtain⟨O,g⟩:=List.getElem?_eq_some_iff.1 g0
      obtain⟨p2,p3⟩:=List.getElem?_eq_some_iff.1 g1
      have J:∀s:Int×Int,iE q zs zs[i] i s.1 s.2=some (.next ((gl c s zs[i].fTo).1,(gl c s zs[i].fTo).2,((i+1:Nat):Int))):=λs=>by
        unfold iE kD gl
        rw [a,zd,w64 (n:=(i:Int)+1) za za]
        by_cases g1:c zs[i].fTo<s.2
        · rw [if_pos (by simpa using g1),if_pos g1];rfl
        · rw [if_neg (by simpa using g1),if_neg g1]
          by_cases g2:c zs[i].fTo=s.2
          · rw [if_pos (by simpa using g2),if_pos g2]
            by_cases g3:zs[i].fTo<s.1
            · rw [if_pos (by simpa using g3),if_pos g3];rfl
            · rw [if_neg (by simpa using g3),if_neg g3];rfl
          · rw [if_neg (by simpa using g2),if_neg g2];rfl
      have j:iF zs q (s.1,s.2,(i:Int))=some (.next ((gl c (gl c s zs[i].ck) zs[i].fTo).1,(gl c (gl c s zs[i].ck) zs[i].fTo).2,((i+1:Nat):Int))):=by
        unfold iF;dsimp only
        rw [if_pos so,kp rfl h1,zd,zd,a,zd, <-J]
        unfold gl
        by_cases g1:c zs[i].ck<s.2
        · rw [if_pos (by simpa using g1),if_pos g1]
        · rw [if_neg (by simpa using g1),if_neg g1]
          by_cases g2:c zs[i].ck=s.2
          · rw [if_pos (by simpa using g2),if_pos g2]
            by_cases g3:zs[i].ck<s.1
            · rw [if_pos (by simpa using g3),if_pos g3]
            · rw [if_neg (by simpa using g3),if_neg g3]
          · rw [if_neg (by simpa using g2),if_neg g2]
      rw [tv j,C (i+1) za,HI O,Hs,HI p2,Hs,g,p3,show 2*(i+1)=2*i+1+1 by omega]
  have k:0<(gh zs).length:=by omega
  obtain⟨z0, -⟩:=endsL_get zs 0 za
  obtain⟨O,g⟩:=List.getElem?_eq_some_iff.1 z0
  have g:(gh zs)[0]=zs[0].ck:=g
  have f:gl c (zs[0].ck,c zs[0].ck) zs[0].ck=(zs[0].ck,c zs[0].ck):=by
    unfold gl
    rw [if_neg zb,if_pos rfl,if_neg zb]
  have L:=kL (2*zs.length-1) 0 za (zs[0].ck,c zs[0].ck)
  have G:=kR zs.length 0 za (zs[0].ck,c zs[0].ck)
  rw [Nat.mul_zero,G7, <-G7 (l:=gh zs),HI k,Hs,g,f]at G
  have Q:((0:Nat):Int)=0:=rfl
  rw [Q]at L G D
  refine⟨((gh zs).drop (0+1)).foldl (gl c) (zs[0].ck,c zs[0].ck),?_,?_,λI=>?_⟩
  · unfold nR
    have hm:zr (0:Int) (GV .i64 ((2:Int)*(zs.length:Int))) (0:Int) 8=some []:=by
      rw [w64 za za]
      unfold zr
      rw [if_pos za];rfl
    have g0:(((gh zs).length:Int)==0)=false:=by rw [K];simp;exact Y
    rw [hm,zd,D,zd,g0]
    simp only [FD,if_false]
    have H:py (gh zs) 0=some zs[0].ck:=by rw [kp (n:=0) (i:=0) zb k,g]
    rw [tN za za]
    simp only [zd,H,u]
    rw [wq za za za,zd,DZ so zb,zd]
    have hx:(((0+((((gh zs).length:Int):Int)).toNat:Nat):Int)-((0+(1:Int).toNat:Nat):Int))=((2*zs.length-1:Nat):Int):=by rw [K];simp;omega
    rw [hx,L,zd]
  · unfold oQ
    have H:py zs 0=some zs[0]:=kp (n:=0) (i:=0) zb za
    simp only [H,zd,a]
    rw [G,zd]
  · have hm:=better_mem c ((gh zs).drop (0+1)) (zs[0].ck,c zs[0].ck)
    have p:∀t∈gh zs,T54 t:=λt N=>by
      unfold gh at N
      obtain⟨z,y,B⟩:=List.mem_flatMap.1 N
      simp only [GX,List.not_mem_nil,or_false]at B
      rcases B with rfl|rfl
      · exact(I z y).1
      · exact(I z y).2
    rcases List.mem_cons.1 hm with h|h
    · rw [h];exact(I _ (FB _)).1
    · exact p _ (List.mem_of_mem_drop h)
theorem mbound_eq{q:aj}(a:PVR q){b:ak}(f:Sub q.bt b):∃c,lk q b=some (c,0)∧iV q b=some (c,0):=by
  obtain⟨zs,k,z2,z3,z4⟩:=zones_eq a f
  have l:=a.len
  obtain⟨r,g,j,p⟩:=best_eq (q:=q) (zs:=zs) z3 za za
  unfold lk iV
  rw [k,z2]
  simp only [zd,bne_self_eq_false,FD,if_false,g,j]
  exact⟨_,rfl,rfl⟩
theorem mat_eq{q:aj}(a:PVR q){p:aa}(f:Sub q.bt ⟨p,p⟩):∃t c,pN q p=some (t,c,0)∧th q p=some (t,c,0)∧T54 t:=by
  obtain⟨zs,l,z2,z3,z4⟩:=zones_eq a f
  have u:=a.len
  obtain⟨r,g,j,k⟩:=best_eq (q:=q) (zs:=zs) z3 za za
  unfold pN th pS
  rw [zd,l,z2]
  simp only [zd,bne_self_eq_false,FD,if_false,g,j]
  exact⟨_,_,rfl,rfl,k z4⟩
end Go.Dw.Ef
set_option maxRecDepth 100000
set_option maxHeartbeats 4000000
namespace Go.Dw.Ef
open Go.Dw Go.Proofs
theorem or_some(l:List Int)(a:l.length<1000):∃r,dW l=some r:=by
  unfold dW
  have:=Sd.or_go (l:=l) (n:=0) (r:=l) a za zb
  rw [show((0:Int))=((0:Nat):Int)from rfl,this]
  cases l.find? λx=>decide (x≠0)<;>exact⟨_,rfl⟩
abbrev Item:=aq
theorem less_ok{d:List Item}{i j:Int}(hi:0<=i∧i<d.length)(c:0<=j∧j<d.length):Ok (kq d i j) (λ_=>True):=by
  unfold kq
  refine HZ (H2 hi.1 hi.2) (λa _=>?_)
  refine HZ (H2 c.1 c.2) (λb _=>?_)
  rw [Sd.mH,zd]
  refine HZ (H2 hi.1 hi.2) (λf _=>?_)
  refine HZ (H2 c.1 c.2) (λb' _=>?_)
  rw [Sd.mH,zd]
  obtain⟨r,e⟩:=or_some [uu a.cg b.cg,uu f.mL b'.mL] zb
  rw [e]
  exact H9 trivial
theorem swap_ok{d:List Item}{i j:Int}(hi:0<=i∧i<d.length)(c:0<=j∧j<d.length):
    Ok (kr i j d) (λr=>r.Perm d∧(r[j.toNat]? =d[i.toNat]?)∧∀k:Nat,k≠i.toNat->k≠j.toNat->r[k]? =d[k]?):=by
  unfold kr
  refine HZ (Hg c.1 c.2) (λ_ _=>HZ (H2 c.1 c.2) (λa g=>?_))
  refine HZ (Hg hi.1 hi.2) (λ_ _=>HZ (H2 hi.1 hi.2) (λb l=>?_))
  refine HZ (Hg hi.1 hi.2) (λ_ _=>HZ (Ha hi.1 hi.2) (λe he=>?_))
  subst he
  refine HZ (Hg c.1 (by simpa using c.2)) (λ_ _=>HZ (Ha c.1 (by simpa using c.2)) (λe he=>?_))
  subst he
  have h1:i.toNat<d.length:=by omega
  have f:j.toNat<d.length:=by omega
  obtain⟨_,rfl⟩:=List.getElem?_eq_some_iff.1 g.2
  obtain⟨_,rfl⟩:=List.getElem?_eq_some_iff.1 l.2
  refine H9 ⟨ID h1 f,?_,λk p q=>?_⟩
  · rw [EY (by simpa using f),ze h1]
  · rw [EX (Ne.symm q),EX (Ne.symm p)]
theorem up_ok{q:aj}{a b:Int}{f:Bool}{l:ap}{d:List Item}{j:Int}(g:0<=j∧j<d.length)(p:d.length<=20000):Ok (qd j q a b f l d) (λr=>r.Perm d):=by
  unfold qd
  refine HZ (P:=λo:List Item=>o.Perm d) (H5 (λs:Int×List Item=>(0<=s.1∧s.1<d.length)∧s.2.Perm d) (λs=>s.1.toNat) ?_ ⟨g,List.Perm.refl _⟩) (λo ho=>H9 ho)
  rintro⟨s1,s2⟩ ⟨⟨i0,i1⟩,i2⟩
  simp only at i0 i1 i2
  have hlen:s2.length=d.length:=i2.length_eq
  unfold pa
  dsimp only
  rw [w64 (n:=s1-1) za za]
  have e:um .i64 (s1-1) 2=some (if s1=0 then 0 else(s1-1) / 2):=by
    unfold um
    rw [if_neg za]
    split
    · rename_i h;subst h;rfl
    · rw [HC za,w64 za za]
  rw [e,zd]
  refine He (λ_=>by rw [zd];exact Hb i2) (λc=>?_)
  have hp:s1≠0:=λh=>c (by rw [if_pos h,h])
  rw [if_neg hp]
  refine HZ (less_ok za za) (λx _=>?_)
  refine IQ (λ_=>by rw [zd];exact Hb i2) (λ_=>?_)
  exact HZ (swap_ok za za) (λy k=>H7 ⟨⟨zc,zc⟩,k.1.trans i2⟩ zc)
def leI(a b:Item):Prop:=a.cg<b.cg∨(a.cg=b.cg∧a.mL<=b.mL)
instance (a b:Item):Decidable (leI a b):=by unfold leI;exact inferInstance
theorem pL(a:Item):leI a a:=by unfold leI;omega
theorem rE{a b c:Item}(h:leI a b)(f:leI b c):leI a c:=by unfold leI at*;omega
theorem leI_total{a b:Item}(h:¬leI a b):leI b a:=by unfold leI at*;omega
def it0:Item:=⟨⟨⟨0,0,0⟩,⟨0,0,0⟩⟩,0,0⟩
def at_(d:List Item)(i:Nat):Item:=d.getD i it0
theorem p8{d:List Item}{i:Nat}{x:Item}(h:d[i]? =some x):at_ d i=x:=by
  unfold at_;rw [Fx,h];rfl
theorem cmp_or2(a b:Int):dW [a,b]=some (if a≠0 then a else b):=by
  unfold dW
  rw [show((0:Int))=((0:Nat):Int)from rfl,Sd.or_go (l:=[a,b]) (n:=0) (r:=[a,b]) zb za zb]
  by_cases h1:a=0
  · by_cases c:b=0
    · simp [h1,c]
    · simp [h1,c]
  · simp [h1]
theorem less_at{d:List Item}{i j:Int}(hi:0<=i∧i<d.length)(c:0<=j∧j<d.length):kq d i j=some (decide (¬leI (at_ d j.toNat) (at_ d i.toNat))):=by
  refine H0 ?_
  unfold kq
  refine HZ (H2 hi.1 hi.2) (λa k=>?_)
  refine HZ (H2 c.1 c.2) (λb l=>?_)
  rw [Sd.mH,zd]
  refine HZ (H2 hi.1 hi.2) (λp f=>?_)
  refine HZ (H2 c.1 c.2) (λb' g=>?_)
  rw [Sd.mH,zd]
  obtain rfl:p=a:=Fg (f.2.symm.trans k.2)
  obtain rfl:b'=b:=Fg (g.2.symm.trans l.2)
  rw [cmp_or2,p8 k.2,p8 l.2]
  refine H9 ?_
  rw [decide_eq_decide]
  unfold leI uu
  split<;>split<;>(try split)<;>(try split)<;>omega
theorem swap_at{d:List Item}{i j:Int}(hi:0<=i∧i<d.length)(c:0<=j∧j<d.length):
    Ok (kr i j d) (λr=>r.Perm d∧∀k:Nat,at_ r k=if k=j.toNat then at_ d i.toNat else if k=i.toNat then at_ d j.toNat else at_ d k):=by
  unfold kr
  refine HZ (Hg c.1 c.2) (λ_ _=>HZ (H2 c.1 c.2) (λa g=>?_))
  refine HZ (Hg hi.1 hi.2) (λ_ _=>HZ (H2 hi.1 hi.2) (λb l=>?_))
  refine HZ (Hg hi.1 hi.2) (λ_ _=>HZ (Ha hi.1 hi.2) (λe he=>?_))
  subst he
  refine HZ (Hg c.1 (by simpa using c.2)) (λ_ _=>HZ (Ha c.1 (by simpa using c.2)) (λe he=>?_))
  subst he
  have h1:i.toNat<d.length:=by omega
  have p:j.toNat<d.length:=by omega
  have q:=p8 g.2
  have t:=p8 l.2
  obtain⟨_,rfl⟩:=List.getElem?_eq_some_iff.1 g.2
  obtain⟨_,rfl⟩:=List.getElem?_eq_some_iff.1 l.2
  refine H9 ⟨ID h1 p,λk=>?_⟩
  split
  · rename_i hk;subst hk
    rw [t];exact p8 (by rw [EY (by simpa using p)])
  · rename_i hk
    split
    · rename_i f;subst f
      rw [q];exact p8 (by rw [EX (Ne.symm hk),EY h1])
    · rename_i f
      unfold at_
      rw [Fx,Fx,EX (Ne.symm hk),EX (Ne.symm f)]
def Heap(d:List Item)(n:Nat):Prop:=∀i,0<i->i<n->leI (at_ d ((i-1) / 2)) (at_ d i)
theorem Heap.root{d:List Item}{n:Nat}(h:Heap d n):∀i,i<n->leI (at_ d 0) (at_ d i):=by
  intro i
  induction i using Nat.strongRecOn with
  |_ i c=>
    intro hi
    by_cases a:i=0
    · subst a;exact pL _
    · exact rE (c ((i-1) / 2) za za) (h i za hi)
theorem up_heap{q:aj}{a b:Int}{f:Bool}{l:ap}{d:List Item}{j:Int}(I:0<=j∧j<d.length)(K:d.length<=20000)
    (h1:∀i,0<i->i<d.length->i≠j.toNat->leI (at_ d ((i-1) / 2)) (at_ d i)) (H:∀c,0<j.toNat->c<d.length->0<c->(c-1) / 2=j.toNat->leI (at_ d ((j.toNat-1) / 2)) (at_ d c)):
    Ok (qd j q a b f l d) (λr=>r.Perm d∧Heap r d.length):=by
  unfold qd
  refine HZ (P:=λo:List Item=>o.Perm d∧Heap o d.length) (H5 (λs:Int×List Item=>(0<=s.1∧s.1<d.length)∧s.2.Perm d∧(∀i,0<i->i<d.length->i≠s.1.toNat->leI (at_ s.2 ((i-1) / 2)) (at_ s.2 i))∧(∀c,0<s.1.toNat->c<d.length->0<c->(c-1) / 2=s.1.toNat->leI (at_ s.2 ((s.1.toNat-1) / 2)) (at_ s.2 c))) (λs=>s.1.toNat) ?_ ⟨I,List.Perm.refl _,h1,H⟩) (λo ho=>H9 ho)
  rintro⟨s1,s2⟩ ⟨⟨i0,i1⟩,i2,i3,i4⟩
  simp only at i0 i1 i2 i3 i4
  have hlen:s2.length=d.length:=i2.length_eq
  unfold pa
  dsimp only
  rw [w64 (n:=s1-1) za za]
  have e:um .i64 (s1-1) 2=some (if s1=0 then 0 else(s1-1) / 2):=by
    unfold um
    rw [if_neg za]
    split
    · rename_i h;subst h;rfl
    · rw [HC za,w64 za za]
  rw [e,zd]
  refine He (λhe=>?_) (λE=>?_)
  · rw [zd]
    refine Hb ⟨i2,λi k hi=>i3 i k hi ?_⟩
    split at he<;>omega
  have hp:s1≠0:=λh=>E (by rw [if_pos h,h])
  rw [if_neg hp]
  have g:((s1-1) / 2).toNat=(s1.toNat-1) / 2:=by omega
  rw [less_at za za,zd]
  refine IQ (λhf=>?_) (λz=>?_)
  · rw [zd]
    refine Hb ⟨i2,λi k hi=>?_⟩
    by_cases h:i=s1.toNat
    · subst h
      rw [<-g]
      simpa using hf
    · exact i3 i k hi h
  · have z:¬leI (at_ s2 ((s1-1) / 2).toNat) (at_ s2 s1.toNat):=by simpa using z
    have hle:=leI_total z
    rw [g]at hle
    refine HZ (swap_at za za) (λy⟨J,C⟩=>H7 ⟨⟨zc,zc⟩,J.trans i2,?_,?_⟩ zc)
    · simp only
      intro i k hi t
      rw [g]at t
      rw [C,C,g]
      by_cases p:i=s1.toNat
      · subst p
        rw [if_pos rfl,if_neg za,if_pos rfl];exact hle
      · rw [if_neg p,if_neg t]
        by_cases hc:(i-1) / 2=s1.toNat
        · rw [if_pos hc]
          exact i4 i za hi k hc
        · rw [if_neg hc]
          by_cases u:(i-1) / 2=(s1.toNat-1) / 2
          · rw [if_pos u]
            have:=i3 i k hi p
            rw [u]at this
            exact rE hle this
          · rw [if_neg u];exact i3 i k hi p
    · simp only
      intro c k hc D B
      rw [g]at k B⊢
      rw [C,C,if_neg za,if_neg (by rw [g];omega),g]
      have F:=i3 ((s1.toNat-1) / 2) za za za
      by_cases x:c=s1.toNat
      · rw [if_pos x];exact F
      · rw [if_neg x,if_neg za]
        have G:=i3 c D hc x
        rw [B]at G
        exact rE F G
theorem down_heap{q:aj}{a b:Int}{f:Bool}{l:ap}{d:List Item}{n:Int}(H:0<=n∧n<d.length)(L:d.length<=20000)(h1:∀c,0<c->c<n.toNat->(c-1) / 2≠0->leI (at_ d ((c-1) / 2)) (at_ d c)):
    Ok (ot 0 n q a b f l d) (λr=>(r.2.Perm d∧at_ r.2 n.toNat=at_ d n.toNat)∧Heap r.2 n.toNat):=by
  unfold ot
  let I:Int×List Item->Prop:=λs=>(0<=s.1∧s.1<=n)∧(s.2.Perm d∧at_ s.2 n.toNat=at_ d n.toNat)∧(∀c,0<c->c<n.toNat->(c-1) / 2≠s.1.toNat->leI (at_ s.2 ((c-1) / 2)) (at_ s.2 c))∧(∀c,0<s.1.toNat->0<c->c<n.toNat->(c-1) / 2=s.1.toNat->leI (at_ s.2 ((s.1.toNat-1) / 2)) (at_ s.2 c))
  let Q:Int×List Item->Prop:=λo=>(o.2.Perm d∧at_ o.2 n.toNat=at_ d n.toNat)∧Heap o.2 n.toNat
  refine HZ (P:=Q) (H5 I (λs=>(n-s.1).toNat) ?_ ⟨⟨zb,H.1⟩,⟨List.Perm.refl _,rfl⟩,λc k hc hp=>h1 c k hc hp,λc k=>by simp at k⟩) (λo ho=>H9 ho)
  rintro⟨s1,s2⟩ ⟨⟨i0,i1⟩,⟨i2,i3⟩,i4,i5⟩
  simp only at i0 i1 i2 i3 i4 i5
  have hlen:s2.length=d.length:=i2.length_eq
  unfold pz
  dsimp only
  rw [w64 (n:=2*s1) za za,w64 (n:=2*s1+1) za za,w64 (n:=2*s1+1+1) za za]
  refine Hc (λF=>Hb ⟨⟨i2,i3⟩,λc k hc=>i4 c k hc za⟩) (λD=>Hc (λ_=>za) (λ_=>?_))
  have K:∀j:Int,(j=2*s1+1∨j=2*s1+2)->j<n->(∀c,0<c->c<n.toNat->(c-1) / 2=s1.toNat->leI (at_ s2 j.toNat) (at_ s2 c))->Ok (fO s2 s1 j) (Ok.S I (λs=>(n-s.1).toNat) Q (s1,s2)):=λj N G u=>by
    unfold fO
    rw [less_at za za,zd]
    refine IQ (λhf=>Hb ⟨⟨i2,i3⟩,λc k hc=>?_⟩) (λp=>?_)
    · have hf:leI (at_ s2 s1.toNat) (at_ s2 j.toNat):=by simpa using hf
      by_cases g:(c-1) / 2=s1.toNat
      · rw [g];exact rE hf (u c k hc g)
      · exact i4 c k hc g
    · have p:¬leI (at_ s2 s1.toNat) (at_ s2 j.toNat):=by simpa using p
      have hle:=leI_total p
      refine HZ (swap_at za za) (λy⟨J,B⟩=>H7 ⟨⟨zc,zc⟩,⟨J.trans i2,?_⟩,?_,?_⟩ zc)
      · simp only
        rw [B,if_neg za,if_neg za];exact i3
      · simp only
        intro c k hc g
        rw [B,B]
        by_cases z:c=j.toNat
        · rw [if_pos z,if_neg za,if_pos za];exact hle
        rw [if_neg z,if_neg g]
        by_cases t:(c-1) / 2=s1.toNat
        · rw [if_pos t,if_neg za];exact u c k hc t
        rw [if_neg t]
        by_cases x:c=s1.toNat
        · rw [if_pos x]
          have:=i5 j.toNat za za za za
          rw [x];exact this
        · rw [if_neg x];exact i4 c k hc t
      · simp only
        intro c k C hc g
        rw [B,B,if_neg za,if_pos za,if_neg za,if_neg za]
        have:=i4 c C hc za
        rw [g]at this;exact this
  have two:∀c,0<c->(c-1) / 2=s1.toNat->c=(2*s1+1).toNat∨c=(2*s1+1+1).toNat:=λc k hc=>by omega
  refine Hc (λE => ?_) (λE => K _ (.inl rfl) za (λc k hc g => by
    rcases two c k g with h|h
    · rw [h];exact pL _
    · omega))
  rw [less_at za za,zd]
  refine H3 (λp=>?_) (λhf=>?_)
  · have p:¬leI (at_ s2 (2*s1+1).toNat) (at_ s2 (2*s1+1+1).toNat):=by simpa using p
    exact K _ (.inr za) za (λc k hc g => by
      rcases two c k g with h|h
      · rw [h];exact leI_total p
      · rw [h];exact pL _)
  · have hf:leI (at_ s2 (2*s1+1).toNat) (at_ s2 (2*s1+1+1).toNat):=by simpa using hf
    exact K _ (.inl rfl) za (λc k hc g => by
      rcases two c k g with h|h
      · rw [h];exact pL _
      · rw [h];exact hf)
theorem at_take{d:List Item}{n i:Nat}(h:i<n):at_ (d.take n) i=at_ d i:=by
  unfold at_
  rw [Fx,Fx,List.getElem?_take,if_pos h]
theorem pop_heap{q:aj}{a b:Int}{f:Bool}{l:ap}{x:Item}{d:List Item}(E:(x::d).length<=20000)(F:Heap (x::d) (d.length+1)):Ok (oE q a b f l (x::d)) (λr=>r.2.Perm d∧Heap r.2 d.length):=by
  have hlen:((x::d).length:Int)=d.length+1:=by simp
  simp only [EZ]at E
  unfold oE jC
  rw [zd]
  rw [hlen,w64 (n:=(d.length:Int)+1-1) za za]
  refine HZ (swap_at za za) (λy⟨t,p⟩=>?_)
  have H:y.length=d.length+1:=by have:=t.length_eq;simpa using this
  have j:((d.length:Int)+1-1).toNat=d.length:=by omega
  refine HZ (down_heap za za (λc k hc hp=>?_)) (λz⟨⟨u,z2⟩,z3⟩=>?_)
  · rw [j]at hc
    rw [p,p,j,if_neg za,if_neg (by simpa using hp),if_neg za,if_neg so]
    exact F c k za
  have I:z.2.length=d.length+1:=by rw [u.length_eq,H]
  unfold rH
  rw [I,w64 (n:=((d.length+1:Nat):Int)-1) za za]
  refine HZ (P:=λr:Item×List Item=>r.2.Perm d∧Heap r.2 d.length) ?_ (λr G=>H9 G)
  refine HZ (Hg za za) (λ_ _=>HZ (H2 za za) (λw _=>?_))
  refine HZ (Ok.sub za za za) (λ_ _=>H9 ?_)
  simp only
  rw [show(((d.length+1:Nat):Int)-1).toNat=d.length by omega]
  rw [j]at z2 z3
  have e:at_ z.2 d.length=x:=by
    rw [z2,p,j,if_pos rfl];rfl
  have g:d.length<z.2.length:=by omega
  have e:z.2[d.length]=x:=by rw [<-p8 (ze g)];exact e
  have B:z.2=z.2.take d.length++[x]:=by
    conv=>lhs;rw [<-IE d.length z.2]
    rw [HI g,e,Hq za]
  have C:(z.2.take d.length++[x]).Perm (x::d):=by rw [<-B];exact u.trans t
  have D:(x::z.2.take d.length).Perm (x::d):=(Hy (l₁:=[x])).trans C
  refine⟨(Hz x).1 D,λi k hi=>?_⟩
  rw [at_take za,at_take hi]
  exact z3 i k hi
theorem at_snoc{d:List Item}{x:Item}{i:Nat}(h:i<d.length):at_ (d++[x]) i=at_ d i:=by
  unfold at_
  rw [Fx,Fx,List.getElem?_append_left h]
theorem push_heap{q:aj}{a b:Int}{f:Bool}{l:ap}{x:Item}{d:List Item}(D:d.length<=10000)(u:Heap d d.length):Ok (mm x q a b f l d) (λr=>r.Perm (x::d)∧Heap r (d.length+1)):=by
  unfold mm pe jC
  refine HZ (P:=λr=>r=d++[x]) (HZ (HY (by simp only [EZ,E0];omega)) (λr g=>H9 g)) (λy C=>?_)
  subst C
  rw [zd]
  have z:((d++[x]).length:Int)=d.length+1:=by simp
  have j:(d++[x]).length=d.length+1:=by simp
  rw [z,w64 za za]
  refine HZ (up_heap za so (λi k hi B=>?_) (λc k hc p t=>?_)) (λr g=>H9 ⟨g.1.trans (Hy (l₂:=[x])),by rw [<-j];exact g.2⟩)
  · have:i<d.length:=by omega
    rw [at_snoc za,at_snoc this]
    exact u i k this
  · omega
theorem push1_heap{q:aj}{a b:Int}{f:Bool}{l:ap}{x:Item}:Ok (mq x q a b f l) (λr=>r.Perm [x]∧Heap r 1):=by
  unfold mq qi jC
  refine HZ (P:=λr=>r=[x]) (HZ (HY zb) (λr c=>H9 c)) (λy g=>?_)
  subst g
  rw [zd]
  rw [w64 zb zb]
  exact HZ (up_ok zb zb) (λr c=>H9 ⟨c,λi j hi=>za⟩)
end Go.Dw.Ef
set_option maxRecDepth 100000
set_option maxHeartbeats 4000000
namespace Go.Dw.Ef
open Go.Dw Go.Proofs
theorem mid_at{a b:Int}(c: -1048576<=a∧a<=b∧b<=1048576):d6 a b=some (a+(b-a) / 2)∧lu a b=some (a+(b-a) / 2):=by
  unfold d6 lu
  rw [w64 (n:=b-a) za za]
  have:um .i64 (b-a) 2=some ((b-a) / 2):=by
    unfold um;rw [if_neg (by decide),HC za,w64 za za]
  rw [this,zd,w64 za za]
  exact⟨rfl,rfl⟩
def cen(b:ak):aa:=⟨b.bo.fX+(b.ba.fX-b.bo.fX) / 2,b.bo.fY+(b.ba.fY-b.bo.fY) / 2,b.bo.fZ+(b.ba.fZ-b.bo.fZ) / 2⟩
theorem center_eq{b:ak}(c:BoxP b):l5 b=some (cen b)∧lq b=some (cen b):=by
  obtain⟨⟨p,q,r⟩,⟨g1,g2,g3⟩,s1,s2,s3⟩:=id c
  obtain⟨f,g⟩:=mid_at (a:=b.bo.fX) (b:=b.ba.fX) za
  obtain⟨j,k⟩:=mid_at (a:=b.bo.fY) (b:=b.ba.fY) za
  obtain⟨l,z2⟩:=mid_at (a:=b.bo.fZ) (b:=b.ba.fZ) za
  unfold l5 lq cb cp
  rw [jJ,jk,decide_eq_true c]
  simp only [zd,HV,FD,if_false,f,g,j,k,l,z2]
  exact⟨rfl,rfl⟩
theorem cen_sub{r b:ak}(h:Sub r b):Sub r ⟨cen b,cen b⟩:=by
  obtain⟨h1,a,c⟩:=h
  unfold cen
  exact⟨zc,zc,zc⟩
theorem points_eq{b:ak}(a:BoxP b):∃n,l6 b=some n∧og b=some n∧(b.ba.fX=b.bo.fX->b.ba.fY=b.bo.fY->b.ba.fZ=b.bo.fZ->n=1):=by
  obtain⟨⟨g,j,k⟩,⟨g1,g2,g3⟩,s1,s2,s3⟩:=id a
  unfold l6 og cb
  rw [jJ,jk,decide_eq_true a]
  simp only [zd,HV,FD,if_false,Int.one_mul]
  rw [w64 (n:=b.ba.fX-b.bo.fX) za za,w64 (n:=b.ba.fX-b.bo.fX+1) za za,w64 (n:=b.ba.fX-b.bo.fX+1) za za]
  refine⟨_,rfl,rfl,λc e2 f=>?_⟩
  rw [c,e2,f,IM,IM,IM]
  decide
theorem split_eq{b:ak}(k:BoxP b):∃s,iu b=some s∧nU b=some s∧(s.2.2=true->∀r,Sub r b->Sub r s.1∧Sub r s.2.1):=by
  obtain⟨⟨G,H,I⟩,⟨g1,g2,g3⟩,s1,s2,s3⟩:=id k
  obtain⟨n,n1,B,C⟩:=points_eq k
  obtain⟨D, -⟩:=mid_at (a:=b.bo.fX) (b:=b.ba.fX) za
  obtain⟨E, -⟩:=mid_at (a:=b.bo.fY) (b:=b.ba.fY) za
  obtain⟨F, -⟩:=mid_at (a:=b.bo.fZ) (b:=b.ba.fZ) za
  unfold iu nU cb cp
  rw [n1,B,(center_eq k).2]
  by_cases x:n<2
  · simp only [zd,x,decide_true,if_true]
    exact⟨_,rfl,rfl,λh=>by cases h⟩
  simp only [zd,x,decide_false,FD,if_false,D,E,F]
  rw [w64 (n:=b.ba.fX-b.bo.fX) za za,w64 (n:=b.ba.fY-b.bo.fY) za za,w64 (n:=b.ba.fZ-b.bo.fZ) za za]
  have l:¬(b.ba.fX=b.bo.fX∧b.ba.fY=b.bo.fY∧b.ba.fZ=b.bo.fZ):=fun⟨y,e2,z⟩=>by have:=C y e2 z;omega
  unfold cen
  by_cases u:b.ba.fY-b.bo.fY>b.ba.fX-b.bo.fX
  · have f:¬(b.ba.fX-b.bo.fX>=b.ba.fY-b.bo.fY):=by omega
    simp only [u,f,decide_true,decide_false,FD,if_true,if_false]
    by_cases g:b.ba.fZ-b.bo.fZ>b.ba.fY-b.bo.fY
    · have c:¬(b.ba.fY-b.bo.fY>=b.ba.fZ-b.bo.fZ):=by omega
      simp only [g,c,decide_true,decide_false,FD,if_true,if_false]
      rw [w64 (n:=b.bo.fZ+(b.ba.fZ-b.bo.fZ) / 2+1) za za]
      exact⟨_,rfl,rfl,λ_ r⟨p,q,t⟩=>⟨⟨zc,zc,zc⟩,zc,zc,zc⟩⟩
    · have c:b.ba.fY-b.bo.fY>=b.ba.fZ-b.bo.fZ:=by omega
      simp only [g,c,decide_true,decide_false,FD,if_true,if_false]
      rw [w64 (n:=b.bo.fY+(b.ba.fY-b.bo.fY) / 2+1) za za]
      exact⟨_,rfl,rfl,λ_ r⟨p,q,t⟩=>⟨⟨zc,zc,zc⟩,zc,zc,zc⟩⟩
  · have f:b.ba.fX-b.bo.fX>=b.ba.fY-b.bo.fY:=by omega
    simp only [u,f,decide_true,decide_false,FD,if_true,if_false]
    by_cases g:b.ba.fZ-b.bo.fZ>b.ba.fX-b.bo.fX
    · have c:¬(b.ba.fX-b.bo.fX>=b.ba.fZ-b.bo.fZ):=by omega
      have j:¬(b.ba.fY-b.bo.fY>=b.ba.fZ-b.bo.fZ):=by omega
      simp only [g,c,j,decide_true,decide_false,FD,if_true,if_false]
      rw [w64 (n:=b.bo.fZ+(b.ba.fZ-b.bo.fZ) / 2+1) za za]
      exact⟨_,rfl,rfl,λ_ r⟨p,q,t⟩=>⟨⟨zc,zc,zc⟩,zc,zc,zc⟩⟩
    · have c:b.ba.fX-b.bo.fX>=b.ba.fZ-b.bo.fZ:=by omega
      simp only [g,c,decide_true,decide_false,FD,if_true,if_false]
      rw [w64 (n:=b.bo.fX+(b.ba.fX-b.bo.fX) / 2+1) za za]
      exact⟨_,rfl,rfl,λ_ r⟨p,q,t⟩=>⟨⟨zc,zc,zc⟩,zc,zc,zc⟩⟩
def mn(a b:Int):Int:=if b<a then b else a
def mx(a b:Int):Int:=if b>a then b else a
def hull(a b:ak):ak:=⟨⟨mn a.bo.fX b.bo.fX,mn a.bo.fY b.bo.fY,mn a.bo.fZ b.bo.fZ⟩,⟨mx a.ba.fX b.ba.fX,mx a.ba.fY b.ba.fY,mx a.ba.fZ b.ba.fZ⟩⟩
theorem hull_eq{a b:ak}(c:BoxP a)(f:BoxP b):nA a b=some (hull a b)∧qp a b=some (hull a b):=by
  unfold nA qp cb cp hull mn mx
  rw [jJ,jk,decide_eq_true c,jJ,jk,decide_eq_true f]
  simp only [zd,HV,FD,if_false]
  constructor<;>first|rfl|trivial
theorem hull_ok{r a b:ak}(c:Sub r a)(f:Sub r b):Sub r (hull a b):=by
  obtain⟨a1,a2,a3⟩:=c
  obtain⟨b1,b2,g⟩:=f
  unfold hull mn mx
  exact⟨zc,zc,zc⟩
theorem mn_comm(a b c:Int):mn (mn a b) c=mn (mn a c) b:=by unfold mn;split<;>split<;>(try split)<;>(try split)<;>omega
theorem mx_comm(a b c:Int):mx (mx a b) c=mx (mx a c) b:=by unfold mx;split<;>split<;>(try split)<;>(try split)<;>omega
theorem hull_comm(a b c:ak):hull (hull a b) c=hull (hull a c) b:=by
  unfold hull
  simp only [mn_comm _ b.bo.fX c.bo.fX,mn_comm _ b.bo.fY c.bo.fY,mn_comm _ b.bo.fZ c.bo.fZ,mx_comm _ b.ba.fX c.ba.fX,mx_comm _ b.ba.fY c.ba.fY,mx_comm _ b.ba.fZ c.ba.fZ]
theorem or3(a b c:Int):dW [a,b,c]=some (if a≠0 then a else if b≠0 then b else c):=by
  unfold dW
  rw [show((0:Int))=((0:Nat):Int)from rfl,Sd.or_go (l:=[a,b,c]) (n:=0) (r:=[a,b,c]) zb za zb]
  by_cases h1:a=0
  · by_cases f:b=0
    · by_cases g:c=0
      · simp [h1,f,g]
      · simp [h1,f,g]
    · simp [h1,f]
  · simp [h1]
theorem sign_at(a b:Int):nl a b=some (uu a b):=by
  unfold nl uu
  by_cases h1:a<b
  · simp [h1]
  · by_cases c:a>b
    · simp [h1,c]
    · simp [h1,c]
theorem cmp_eq(a b:aa):∃c,eB a b=some c∧gV a b=some c:=by
  unfold eB gV
  rw [Sd.mH,Sd.mH,Sd.mH,sign_at,sign_at,sign_at]
  simp only [zd]
  rw [or3]
  by_cases h1:uu a.fX b.fX=0
  · by_cases f:uu a.fY b.fY=0
    · simp [h1,f]
    · simp [h1,f]
  · simp [h1]
end Go.Dw.Ef
set_option maxRecDepth 100000
set_option maxHeartbeats 4000000
namespace Go.Dw.Ef
open Go.Dw Go.Proofs
abbrev OB:=bq
def eE:List OB->Nat->List Item
  | [],_=>[]
  |o::l,k=>if o.gi=true then eE l (k+1)else⟨o.ey,o.cg,(k:Int)⟩::eE l (k+1)
def itm(o:OB)(k:Nat):Item:=⟨o.ey,o.cg,(k:Int)⟩
theorem nh{x:Item}:∀{l:List OB}{k:Nat},x∈eE l k↔∃(j:Nat)(h:j<l.length),l[j].gi=false∧x=itm l[j] (k+j)
  | [],k=>by simp [eE]
  |o::l,k=>by
    have a:=nh (x:=x) (l:=l) (k:=k+1)
    unfold eE
    by_cases ho:o.gi=true
    · rw [if_pos ho,a]
      constructor
      · rintro⟨j,h,h1,rfl⟩
        exact⟨j+1,by simpa using h,h1,by simp [itm];omega⟩
      · rintro⟨j,h,h1,rfl⟩
        cases j with
        |zero=>simp [ho]at h1
        |succ j=>exact⟨j,by simpa using h,h1,by simp [itm];omega⟩
    · rw [if_neg ho,GX,a]
      constructor
      · rintro(rfl|⟨j,h,h1,rfl⟩)
        · exact⟨0,zb,by simpa using ho,rfl⟩
        · exact⟨j+1,by simpa using h,h1,by simp [itm];omega⟩
      · rintro⟨j,h,h1,rfl⟩
        cases j with
        |zero=>exact .inl rfl
        |succ j=>exact .inr ⟨j,by simpa using h,h1,by simp [itm];omega⟩
theorem items_nil{l:List OB}:∀{k:Nat},(∀o∈l,o.gi=true)->eE l k=[]:=by
  induction l with
  |nil=>intro k _;rfl
  |cons o l c=>
    intro k h
    unfold eE
    rw [if_pos (h o zb)]
    exact c λx a=>h x (by simp [a])
theorem items_app(m:List OB):∀(l:List OB)(k:Nat),eE (l++m) k=eE l k++eE m (k+l.length)
  | [],k=>by simp [eE]
  |o::l,k=>by
    have a:=items_app m l (k+1)
    show(if o.gi=true then eE (l++m) (k+1)else⟨o.ey,o.cg,(k:Int)⟩::eE (l++m) (k+1))=(if o.gi=true then eE l (k+1)else⟨o.ey,o.cg,(k:Int)⟩::eE l (k+1))++eE m (k+(o::l).length)
    rw [a,show k+1+l.length=k+(o::l).length by simp;omega]
    split<;>rfl
def dn(o:OB):OB:=⟨o.ey,o.cg,true⟩
theorem items_done:∀{l:List OB}{k j:Nat}(h:j<l.length),l[j].gi=false->(eE l k).Perm (itm l[j] (k+j)::eE (l.set j (dn l[j])) k)
  | [],k,j,h,_=>by simp at h
  |o::l,k,0,h,a=>by
    have a:o.gi=false:=a
    show(if o.gi=true then eE l (k+1)else _).Perm (_::(if(dn o).gi=true then eE l (k+1)else _))
    rw [if_neg (by simp [a]),if_pos (by rfl)]
    exact List.Perm.refl _
  |o::l,k,j+1,h,a=>by
    have f:j<l.length:=by simpa using h
    have c:=items_done (l:=l) (k:=k+1) (j:=j) f a
    have e:itm l[j] (k+1+j)=itm ((o::l)[j+1]'h) (k+(j+1)):=by simp [itm];omega
    show(if o.gi=true then eE l (k+1)else⟨o.ey,o.cg,(k:Int)⟩::eE l (k+1)).Perm (_::(if o.gi=true then eE (l.set j _) (k+1)else⟨o.ey,o.cg,(k:Int)⟩::eE (l.set j _) (k+1)))
    rw [<-e]
    split
    · exact c
    · exact(List.Perm.cons _ c).trans (List.Perm.swap _ _ _)
theorem next_ok(l:List OB)(E:l.length<=10000):Ok (qr l) (λn=>(n= -1∧∀o∈l,o.gi=true)∨∃(k:Nat)(h:k<l.length),n=k∧l[k].gi=false∧∀(j:Nat)(c:j<l.length),l[j].gi=false->leI (itm l[k] k) (itm l[j] j)):=by
  unfold qr
  rw [Hm]
  refine H5 (λs:Int×Int=>∃i:Nat,s.2=i∧i<=l.length∧((s.1= -1∧∀(j:Nat)(c:j<l.length),j<i->l[j].gi=true)∨∃(k:Nat)(h:k<l.length),k<i∧s.1=k∧l[k].gi=false∧∀(j:Nat)(c:j<l.length),j<i->l[j].gi=false->leI (itm l[k] k) (itm l[j] j))) (λs=>((l.length:Int)-s.2).toNat) ?_ ⟨0,rfl,za,.inl ⟨rfl,λj _ h=>za⟩⟩
  rintro⟨s1,s2⟩ ⟨i,t,hi,y⟩
  simp only at t y
  subst t
  unfold oR
  dsimp only
  refine Hc (λD=>?_) (λC=>Hb ?_)
  · have p:i<l.length:=by omega
    rw [kp rfl p]
    simp only [zd]
    rw [w64 (n:=(i:Int)+1) za za]
    refine IQ (λx=>?_) (λz=>?_)
    · rcases y with⟨rfl,r⟩|⟨k,hk,u,rfl,f,q⟩
      · refine Hc (λ_=>H7 ⟨i+1,rfl,za,.inr ⟨i,p,za,rfl,x,λj c g a=>?_⟩⟩ zc) (λh=>za)
        by_cases e:j=i
        · subst e;exact pL _
        · have:=r j c za;rw [this]at a;cases a
      · refine Hc (λh=>za) (λ_=>?_)
        rw [kp rfl hk]
        simp only [zd]
        refine Hc (λB=>H7 ⟨i+1,rfl,za,.inr ⟨i,p,za,rfl,x,λj c g a=>?_⟩⟩ zc) (λB=>H7 ⟨i+1,rfl,za,.inr ⟨k,hk,za,rfl,f,λj c g a=>?_⟩⟩ zc)
        · by_cases e:j=i
          · subst e;exact pL _
          · have:=q j c za a
            unfold leI itm at*
            simp only at*
            omega
        · by_cases e:j=i
          · subst e
            unfold leI itm
            simp only
            omega
          · exact q j c za a
    · rcases y with⟨rfl,r⟩|⟨k,hk,u,rfl,f,q⟩
      · refine H7 ⟨i+1,rfl,za,.inl ⟨rfl,λj c g=>?_⟩⟩ zc
        by_cases e:j=i
        · subst e;exact z
        · exact r j c za
      · refine H7 ⟨i+1,rfl,za,.inr ⟨k,hk,za,rfl,f,λj c g a=>?_⟩⟩ zc
        by_cases e:j=i
        · subst e;rw [z]at a;cases a
        · exact q j c za a
  · have:i=l.length:=by omega
    subst this
    rcases y with⟨rfl,r⟩|⟨k,hk,u,rfl,f,q⟩
    · refine .inl ⟨rfl,λo ho=>?_⟩
      obtain⟨j,c,rfl⟩:=HN ho
      exact r j c c
    · exact .inr ⟨k,hk,rfl,f,λj c a=>q j c c a⟩
theorem leI_anti{o p:OB}{k j:Nat}(h1:leI (itm o k) (itm p j))(a:leI (itm p j) (itm o k)):k=j:=by
  unfold leI itm at*
  simp only at*
  omega
theorem first_is{l:List OB}{x:Item}{d:List Item}(hp:(x::d).Perm (eE l 0))(t:Heap (x::d) (d.length+1)){k:Nat}(hk:k<l.length)(r:l[k].gi=false)(hm:∀(j:Nat)(p:j<l.length),l[j].gi=false->leI (itm l[k] k) (itm l[j] j)):x=itm l[k] k:=by
  have u:x∈eE l 0:=hp.mem_iff.1 zb
  obtain⟨j,p,c,e⟩:=nh.1 u
  rw [EJ]at e
  have g:itm l[k] k∈x::d:=hp.mem_iff.2 (nh.2 ⟨k,hk,r,by rw [EJ]⟩)
  obtain⟨i,hi,q⟩:=HN g
  have a:=t.root i (by simpa using hi)
  rw [p8 (ze hi),q]at a
  have a:leI x (itm l[k] k):=a
  rw [e]at a
  have f:j=k:=leI_anti a (hm j p c)
  subst f
  exact e
end Go.Dw.Ef
set_option maxRecDepth 100000
set_option maxHeartbeats 4000000
namespace Go.Dw.Ef
open Go.Dw Go.Proofs
abbrev Loc0:=ap
def zB:ak:=ak.mk (aa.mk 0 0 0) (aa.mk 0 0 0)
def zL:Loc0:=ap.mk (aa.mk 0 0 0) 0 0 0 zB
abbrev bet(f:Bool)(m:Int)(best:Loc0)(c:Int):Prop:=f=false∨m<best.cA∨(m=best.cA∧c<0)
theorem look_eq{q:aj}{b:ak}(k:BoxP b){tm m:Int}(j:pN q (cen b)=some (tm,m,0))(n l:Int)(f:Bool)(best:Loc0)(d:List Item){c:Int}(hc:eB (cen b) best.bU=some c):
    nW b q n l f best d=some (0,true,if bet f m best c then⟨cen b,tm,m,0,zB⟩else best):=by
  unfold nW
  rw [(center_eq k).1,zd,j,zd]
  simp only [bne_self_eq_false,FD,if_false]
  cases f with
  |false=>rw [if_pos (by rfl),if_pos (.inl rfl)];rfl
  |true=>
    rw [if_neg zb]
    by_cases h1:m<best.cA
    · rw [if_pos (by simpa using h1),if_pos (.inr (.inl h1))];rfl
    · rw [if_neg (by simpa using h1)]
      by_cases a:m=best.cA
      · rw [if_pos (by simpa using a),hc,zd]
        by_cases g:c<0
        · rw [if_pos (by simpa using g),if_pos (.inr (.inr ⟨a,g⟩))];rfl
        · rw [if_neg (by simpa using g), if_neg (by
                                                     rintro (h | h | h); · cases h
                                                     · exact h1 h
                                                     · exact g h.2)]
      · rw [if_neg (by simpa using a), if_neg (by
                                                   rintro (h | h | h); · cases h
                                                   · exact h1 h
                                                   · exact a h.1)]
theorem addq_ok{q:aj}(t:PVR q){b:ak}{c:Int}(g:lk q b=some (c,0)){n:Nat}(p:n<=10000)(l:Int)(f:Bool)(best:Loc0){d:List Item}(j:d.length<=10000)(k:Heap d d.length):
    Ok (kV b q n l f best d) (λr=>r.1=0∧r.2.1=((n+1:Nat):Int)∧r.2.2.Perm (⟨b,c,(n:Int)⟩::d)∧Heap r.2.2 (d.length+1)):=by
  unfold kV oV
  rw [g,zd,if_pos (by rfl)]
  refine HZ (push_heap j k) (λx a=>?_)
  rw [w64 za za]
  exact H9 ⟨rfl,rfl,a.1,a.2⟩
structure SRel(q:aj)(t:Nat)(num tk:Int)(f:Bool)(best:Loc0)(d:List Item)(s5:Int)(l:List OB)(X Y Z tm m:Int):Prop where
  tk1:tk=t
  tk2:s5=t
  tle:t<=3000
  num:num=l.length
  len:l.length<=2*t+1
  found:f=decide (0<t)
  best:0<t->best=⟨⟨X,Y,Z⟩,tm,m,0,zB⟩∧Sub q.bt ⟨⟨X,Y,Z⟩,⟨X,Y,Z⟩⟩∧T54 tm
  perm:d.Perm (eE l 0)
  heap:Heap d d.length
  sub:∀o∈l,Sub q.bt o.ey
  zero:t=0->∃b,l=[⟨q.bt,b,false⟩]
theorem items_len:∀(l:List OB)(k:Nat),(eE l k).length<=l.length
  | [],k=>by simp [eE]
  |o::l,k=>by
    have:=items_len l (k+1)
    show(if o.gi=true then eE l (k+1)else _::eE l (k+1)).length<=_
    split<;>simp only [EZ]<;>omega
theorem step_sim{q:aj}(hq:PVR q){t:Nat}{num tk:Int}{f:Bool}{best:Loc0}{d:List Item}{s5:Int}{l:List OB}{X Y Z tm m:Int}(h:SRel q t num tk f best d s5 l X Y Z tm m){k:Nat}(hk:k<l.length)(h0:l[k].gi=false)(hm:∀(j:Nat)(hj:j<l.length),l[j].gi=false->leI (itm l[k] k) (itm l[j] j)):
    (t=3000∧(∃y,gP q num tk f best d=some (25,y))∧dl s5 l k q m X Y Z tm=some (.stop (.inr (zL,0,25))))∨
    (∃a6 F d' l' z B C g K,gP q num tk f best d=some (0,a6,((t+1:Nat):Int),true,F,d')∧dl s5 l k q m X Y Z tm=some (.next (((t+1:Nat):Int),l',z,B,C,g,K))∧SRel q (t+1) a6 ((t+1:Nat):Int) true F d' ((t+1:Nat):Int) l' z B C g K):=by
  obtain⟨rfl,rfl,tle,rfl,hlen,rfl,a8,r,G,a5,hzero⟩:=h
  have d1:d.length<=l.length:=by rw [r.length_eq];exact items_len l 0
  by_cases ht:t=3000
  · left
    refine⟨ht,?_,?_⟩
    · unfold gP
      rw [if_pos (by simp [ht])]
      exact⟨_,rfl⟩
    · unfold dl
      rw [if_pos (by simp [ht])];rfl
  right
  have c6:((t:Int)==3000)=false:=by simp;omega
  obtain⟨x,N,rfl⟩:∃x N,d=x::N:=by
    cases d with
    |nil=>
      have:=r.mem_iff.2 (nh.2 ⟨k,hk,h0,rfl⟩)
      cases this
    |cons x N=>exact⟨x,N,rfl⟩
  have hx:x=itm l[k] k:=first_is r (by simpa using G) hk h0 hm
  subst hx
  have hb:=a5 _ (FB hk)
  have hB:=hb.ok hq.box
  obtain⟨pt,pm,a1,a2,a3⟩:=mat_eq hq (cen_sub hb)
  obtain⟨sp,d4,d5,e1⟩:=split_eq hB
  obtain⟨cc,a7, -⟩:=cmp_eq (cen l[k].ey) best.bU
  simp only [EZ]at d1
  obtain⟨rp,d3,c7,c8⟩:=pop_heap (q:=q) (a:=(l.length:Int)) (b:=(t:Int)) (f:=decide (0<t)) (l:=best) (x:=itm l[k] k) (d:=N) (by simp only [EZ];omega) (by simpa using G)
  have L:rp.2.length=N.length:=c7.length_eq
  have e9:l.set k (dn l[k])=l.set k (dn l[k]):=rfl
  have c0:=items_done (k:=0) hk h0
  rw [EJ]at c0
  have c4:rp.2.Perm (eE (l.set k (dn l[k])) 0):=c7.trans ((Hz _).1 (r.trans c0))
  have J:∀o∈l.set k (dn l[k]),Sub q.bt o.ey:=λo ho=>by
    rcases List.mem_or_eq_of_mem_set ho with h1|rfl
    · exact a5 o h1
    · exact hb
  have c3:yh l (k:Int) (fun(z25:bq)=>(bq.mk z25.ey z25.cg true))=some (l.set k (dn l[k])):=Iv.modO_at rfl hk
  have hg:py (l.set k (dn l[k])) (k:Int)=some (dn l[k]):=by
    rw [kp (i:=k) rfl (by simpa using hk),List.getElem_set_self]
  obtain⟨E,b3⟩:∃E:Loc0,E=if bet (decide (0<t)) pm best cc then⟨cen l[k].ey,pt,pm,0,zB⟩else best:=⟨_,rfl⟩
  have H:=look_eq (q:=q) hB a1 (l.length:Int) ((t+1:Nat):Int) (decide (0<t)) best rp.2 a7
  rw [<-b3]at H
  have hR:∃z B C g K,E=⟨⟨z,B,C⟩,g,K,0,zB⟩∧Sub q.bt ⟨⟨z,B,C⟩,⟨z,B,C⟩⟩∧T54 g∧dl (t:Int) l k q m X Y Z tm=cG (l.set k (dn l[k])) k q t z B C g K:=by
    have a9:=cen_sub hb
    have base:dl (t:Int) l k q m X Y Z tm=(if((t:Int)==(0:Int))=true then(cG (l.set k (dn l[k])) k q t (cen l[k].ey).fX (cen l[k].ey).fY (cen l[k].ey).fZ pt pm)else(if(decide (pm<m))=true then(cG (l.set k (dn l[k])) k q t (cen l[k].ey).fX (cen l[k].ey).fY (cen l[k].ey).fZ pt pm)else(if(pm==m)=true then((gV (cen l[k].ey) (aa.mk X Y Z)).bind λe5=>if(decide (e5<(0:Int)))=true then(cG (l.set k (dn l[k])) k q t (cen l[k].ey).fX (cen l[k].ey).fY (cen l[k].ey).fZ pt pm)else(cG (l.set k (dn l[k])) k q t X Y Z tm m))else(cG (l.set k (dn l[k])) k q t X Y Z tm m)))):=by
      unfold dl
      rw [c6,if_neg zb,tN za za,zd,c3,zd,tN za (by simpa using hk),zd,hg,zd]
      show((lq l[k].ey).bind _)=_
      rw [(center_eq hB).2,zd,a2,zd]
    rw [base,b3]
    rcases GY t with rfl|c5
    · have p:bet (decide (0<0)) pm best cc:=Or.inl zb
      rw [if_pos p,if_pos (show(((0:Nat):Int)==0)=true from rfl)]
      exact⟨_,_,_,_,_,rfl,a9,a3,rfl⟩
    · obtain⟨rfl,b6,Q⟩:=a8 c5
      obtain⟨u,k1,k2⟩:=cmp_eq (cen l[k].ey) ⟨X,Y,Z⟩
      have:u=cc:=by rw [k1]at a7;exact Fg a7
      subst this
      have e0:((t:Int)==0)=false:=by simp;omega
      rw [e0]
      simp only [FD,if_false]
      by_cases g1:pm<m
      · have p:bet (decide (0<t)) pm ⟨⟨X,Y,Z⟩,tm,m,0,zB⟩ u:=Or.inr (Or.inl g1)
        rw [if_pos p,if_pos (show decide (pm<m)=true by simpa using g1)]
        exact⟨_,_,_,_,_,rfl,a9,a3,rfl⟩
      · rw [if_neg (show ¬decide (pm<m)=true by simpa using g1)]
        by_cases g2:pm=m
        · rw [if_pos (show(pm==m)=true by simpa using g2),k2,zd]
          by_cases g3:u<0
          · have p:bet (decide (0<t)) pm ⟨⟨X,Y,Z⟩,tm,m,0,zB⟩ u:=Or.inr (Or.inr ⟨g2,g3⟩)
            rw [if_pos p,if_pos (show decide (u<0)=true by simpa using g3)]
            exact⟨_,_,_,_,_,rfl,a9,a3,rfl⟩
          · have p:¬bet (decide (0<t)) pm ⟨⟨X,Y,Z⟩,tm,m,0,zB⟩ u:=by
              rintro(h|h|h)
              · simp at h;omega
              · exact g1 h
              · exact g3 h.2
            rw [if_neg p,if_neg (show ¬decide (u<0)=true by simpa using g3)]
            exact⟨X,Y,Z,tm,m,rfl,b6,Q,rfl⟩
        · have p:¬bet (decide (0<t)) pm ⟨⟨X,Y,Z⟩,tm,m,0,zB⟩ u:=by
            rintro(h|h|h)
            · simp at h;omega
            · exact g1 h
            · exact g2 h.1
          rw [if_neg p,if_neg (show ¬(pm==m)=true by simpa using g2)]
          exact⟨X,Y,Z,tm,m,rfl,b6,Q,rfl⟩
  obtain⟨z,B,C,g,K,O,b4,b5,W⟩:=hR
  have hw:GV .i64 ((t:Int)+1)=((t+1:Nat):Int):=by rw [w64 za za];rfl
  have I:∀y,gP q (l.length:Int) t (decide (0<t)) best (itm l[k] k::N)=y↔((if(!sp.2.2)=true then(some ((0:Int),(l.length:Int),((t+1:Nat):Int),true,E,rp.2))else((kV sp.1 q (l.length:Int) ((t+1:Nat):Int) true E rp.2).bind λD=>if(D.1 != (0:Int))=true then(some (D.1,D.2.1,((t+1:Nat):Int),true,E,D.2.2))else((kV sp.2.1 q D.2.1 ((t+1:Nat):Int) true E D.2.2).bind λb0=>some (b0.1,b0.2.1,((t+1:Nat):Int),true,E,b0.2.2)))))=y:=λy=>by
    unfold gP
    rw [c6,if_neg zb,tN za (by simp only [EZ];omega),zd,kp (i:=0) (by rfl) zb,zd,d3,zd,hw]
    show((nW l[k].ey q (l.length:Int) ((t+1:Nat):Int) (decide (0<t)) best rp.2).bind _)=y↔_
    rw [H,zd]
    simp only [bne_self_eq_false,FD,if_false]
    show((iu l[k].ey).bind _)=y↔_
    rw [d4,zd]
  have c:(l.set k (dn l[k])).length=l.length:=by simp
  have T:∀y,cG (l.set k (dn l[k])) k q t z B C g K=y↔(if sp.2.2=true then((iV q sp.1).bind λe2=>(iV q sp.2.1).bind λe3=>(tE (l.set k (dn l[k])) [(bq.mk sp.1 e2.1 false),(bq.mk sp.2.1 e3.1 false)] 64).bind λe4=>some (.next (((t+1:Nat):Int),e4,z,B,C,g,K)))else(some (.next (((t+1:Nat):Int),l.set k (dn l[k]),z,B,C,g,K))))=y:=λy=>by
    unfold cG
    rw [tN za (by rw [c];omega),zd,hg,zd,hw]
    show((nU l[k].ey).bind _)=y↔_
    rw [d5,zd]
  cases hs:sp.2.2 with
  |false=>
    refine⟨l.length,E,rp.2,l.set k (dn l[k]),z,B,C,g,K,(I _).2 (by rw [hs];rfl),by rw [W];exact(T _).2 (by rw [hs];rfl),rfl,rfl,za,by rw [c],by rw [c];omega,zb,λ_=>⟨O,b4,b5⟩,c4,by rw [L];exact c8,J,λh=>za⟩
  |true=>
    obtain⟨u1,u2⟩:=e1 hs _ hb
    obtain⟨c1,b1,c9⟩:=mbound_eq hq u1
    obtain⟨c2,b2,d0⟩:=mbound_eq hq u2
    obtain⟨y1,e6,g1,g2,g3,g4⟩:=addq_ok hq b1 (n:=l.length) za ((t+1:Nat):Int) true E (d:=rp.2) za (by rw [L];exact c8)
    have d2:y1.2.2.length=N.length+1:=by rw [g3.length_eq];simp [L]
    obtain⟨y2,e7,k1,k2,k3,k4⟩:=addq_ok hq b2 (n:=l.length+1) za ((t+1:Nat):Int) true E (d:=y1.2.2) za (by rw [d2, <-L];exact g4)
    have ha:tE (l.set k (dn l[k])) [(bq.mk sp.1 c1 false),(bq.mk sp.2.1 c2 false)] 64=some (l.set k (dn l[k])++[⟨sp.1,c1,false⟩,⟨sp.2.1,c2,false⟩]):=by
      unfold tE;rw [if_pos (by rw [c];simp only [EZ,E0];omega)]
    refine⟨((l.length+1+1:Nat):Int),E,y2.2.2,l.set k (dn l[k])++[⟨sp.1,c1,false⟩,⟨sp.2.1,c2,false⟩],z,B,C,g,K,(I _).2 ?_,by rw [W];exact(T _).2 (by rw [hs,if_pos rfl,c9,zd,d0,zd,ha,zd]),rfl,rfl,za,by rw [F0,c];rfl,so,zb,λ_=>⟨O,b4,b5⟩,?_,?_,?_,λh=>za⟩
    · rw [hs,if_neg zb,e6,zd,g1,g2]
      simp only [bne_self_eq_false,FD,if_false]
      rw [e7,zd,k1,k2]
    · rw [items_app]
      have e:eE [(⟨sp.1,c1,false⟩:OB),⟨sp.2.1,c2,false⟩] (0+(l.set k (dn l[k])).length)=[⟨sp.1,c1,(l.length:Int)⟩,⟨sp.2.1,c2,((l.length+1:Nat):Int)⟩]:=by
        rw [c,EJ];rfl
      rw [e]
      refine(k3.trans (List.Perm.cons _ (g3.trans (List.Perm.cons _ c4)))).trans ?_
      refine(List.Perm.swap _ _ _).trans ?_
      exact(Hy (l₁:=[_,_]))
    · have:y2.2.2.length=y1.2.2.length+1:=by rw [k3.length_eq];simp
      rw [this];exact k4
    · intro o ho
      rcases List.mem_append.1 ho with h|h
      · exact J o h
      · rcases List.mem_cons.1 h with rfl|h
        · exact u1
        · rw [List.mem_singleton.1 h];exact u2
end Go.Dw.Ef
