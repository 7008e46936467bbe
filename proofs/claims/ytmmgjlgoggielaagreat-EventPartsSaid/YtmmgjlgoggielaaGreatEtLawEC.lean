
import Derived.Test.YtmmgjlgoggielaaGreatEtLawRS

set_option maxRecDepth 100000
set_option maxHeartbeats 4000000
namespace Go.Dw.Et
open Go.Dw Go.Proofs
open Sd (mD iQ ix)
theorem count_loop{ω:Type}{l:List Pick}{y:Pick}{g:Int->ω}{body:(Int×Int)->Option (gD (Int×Int) ω)}{C:Int}
  (h1:∀(i:Nat)(hi:i<l.length)(c:Int),0<=c->c<=C+i->body (c,(i:Int))=some (.next ((if l[i]=y then c+1 else c),((i+1:Nat):Int))))
  (h2:∀c,0<=c->c<=C+l.length->body (c,(l.length:Int))=some (.stop (g c))) {c:Int} (h0:0<=c) (hC:c<=C):eO body (c,(0:Int))=some (g (c+l.count y)):=by
 have key:∀(k i:Nat)(c:Int),i+k=l.length->0<=c->c<=C+i->eO body (c,(i:Int))=some (g (c+(l.drop i).count y)):=by
  intro k
  induction k with
  |zero=>
   intro i c hi h0 hc
   obtain rfl:i=l.length:=by omega
   rw [iE (h2 c h0 hc),List.drop_length]
   simp
  |succ k ih=>
   intro i c hi h0 hc
   have hlt:i<l.length:=by omega
   rw [mh (h1 i hlt c h0 hc),ih (i+1) _ za (by split<;>omega) (by split<;>omega),List.drop_eq_getElem_cons hlt,List.count_cons]
   by_cases h:l[i]=y
   ·rw [if_pos h,if_pos (by simpa using h)]
    congr 2;omega
   ·rw [if_neg h,if_neg (by simpa using h)]
    congr 2
 have:=key l.length 0 c za h0 (by simpa using hC)
 simpa using this
theorem sorted_at{l:List Pick}(hl:l.length<=1000)(h:l.Pairwise fun x y=>dz x y<0):mE l=some true:=by
 refine Ok.eq ?_
 unfold mE
 refine Ok.bind (P:=fun o=>o= .inl ()) (Ok.loop (fun s:Int=>1<=s) (fun s=>((l.length:Int)-s).toNat) (fun s hs=>?_) (Int.le_refl _)) (fun o ho=>by subst ho;exact Ok.ret rfl)
 unfold pa
 refine Ok.ia (fun hlt=>?_) (fun _=>Ok.st rfl)
 rw [w64 za za,iT (i:=(s-1).toNat) za za,zd,iT (i:=s.toNat) za za,zd,kc,zd]
 have:=List.pairwise_iff_getElem.1 h (s-1).toNat s.toNat za za za
 rw [if_neg (by simpa using this),w64 za za]
 exact Ok.nx za za
theorem keyP(a b:Pick):rO a b=decide (a=b):=eqs a b
theorem mHas_at{β:Type}{p:Pick}:∀{m:List (Pick×β)},p∉m.map (·.1)->zk rO p m=false
 | [],_=>rfl
 |e::m,h=>by
  rw [List.map_cons,List.mem_cons,not_or]at h
  unfold zk
  rw [keyP,if_neg (by simpa using h.1)]
  exact mHas_at h.2
theorem mPut_at{β:Type}{p:Pick}{v:β}:∀{m:List (Pick×β)},p∉m.map (·.1)->zl rO p v m=m++[(p,v)]
 | [],_=>rfl
 |e::m,h=>by
  rw [List.map_cons,List.mem_cons,not_or]at h
  unfold zl
  rw [keyP,if_neg (by simpa using h.1),mPut_at h.2];rfl
structure EvsOk(E:List az):Prop where
 len:E.length<=100
 one:∀e∈E,e.ap.bo≠ []∧e.ap.bo.length<=100∧(e.ap.bo.Pairwise fun x y=>dz x y<0)∧e.bd=nm e.ap.bo
 asc:E.Pairwise fun x y=>nN x.bd y.bd<0
 nd:(E.flatMap fun e=>e.ap.bo).Nodup
theorem valid_events{E:List az}(h:EvsOk E):nv E=some true:=by
 refine Ok.eq ?_
 have hlen:=h.len
 unfold nv
 refine Ok.bind (P:=fun o=>o= .inl ()) (Ok.loop (fun s:Int×List (Pick×bY)=>∃i:Nat,s.1=(i:Int)∧i<=E.length∧s.2.map (·.1)=(E.take i).flatMap fun e=>e.ap.bo) (fun s=>((E.length:Int)-s.1).toNat) ?_ ⟨0,rfl,Nat.zero_le _,sm⟩) (fun o ho=>by subst ho;exact Ok.ret rfl)
 rintro⟨s1,s2⟩ ⟨i,e1,hi,hm⟩
 simp only at e1 hm
 subst e1
 unfold o0
 dsimp only
 refine Ok.ia (fun hlt=>?_) (fun _=>Ok.st rfl)
 have hi':i<E.length:=by omega
 obtain⟨o1,o2,o3,o4⟩:=h.one _ (List.getElem_mem hi')
 have hnil:=List.length_pos_iff.2 o1
 rw [iT (i:=i) rfl hi',zd,if_neg (by simp;exact o1),sorted_at za o3,zd,if_neg sm,name_at za,zd,if_neg (by rw [o4];simp)]
 have hsplit:(E.take (i+1)).flatMap (fun e=>e.ap.bo)=((E.take i).flatMap fun e=>e.ap.bo)++E[i].ap.bo:=by
  rw [pf hi',List.flatMap_append];simp
 have hnd:(((E.take i).flatMap fun e=>e.ap.bo)++E[i].ap.bo).Nodup:=by
  rw [<-hsplit]
  refine h.nd.sublist ?_
  conv=>rhs;rw [<-List.take_append_drop (i+1) E,List.flatMap_append]
  exact List.sublist_append_left _ _
 have k18:Ok (il E[i] (i:Int) s2) (Ok.S (fun s:Int×List (Pick×bY)=>∃i:Nat,s.1=(i:Int)∧i<=E.length∧s.2.map (·.1)=(E.take i).flatMap fun e=>e.ap.bo) (fun s=>((E.length:Int)-s.1).toNat) (fun o=>o= .inl ()) ((i:Int),s2)):=by
  unfold il
  refine Ok.bind (P:=fun o:(Int×List (Pick×bY))⊕Bool=>∃m,o= .inl ((i:Int),m)∧m.map (·.1)=(E.take (i+1)).flatMap fun e=>e.ap.bo) (Ok.loop (fun s:Int×List (Pick×bY)=>∃j:Nat,s.1=(j:Int)∧j<=E[i].ap.bo.length∧s.2.map (·.1)=((E.take i).flatMap fun e=>e.ap.bo)++E[i].ap.bo.take j) (fun s=>((E[i].ap.bo.length:Int)-s.1).toNat) ?_ ⟨0,rfl,Nat.zero_le _,by rw [hm];simp⟩) (fun o ho=>?_)
  ·rintro⟨t1,t2⟩ ⟨j,e2,hj,hm2⟩
   simp only at e2 hm2
   subst e2
   unfold oZ
   dsimp only
   refine Ok.ia (fun hlt2=>?_) (fun hge=>Ok.st ⟨_,rfl,?_⟩)
   rotate_left
   ·obtain rfl:j=E[i].ap.bo.length:=by omega
    rw [hm2,hsplit,List.take_length]
   have hj':j<E[i].ap.bo.length:=by omega
   rw [iT (i:=j) rfl hj',zd]
   have hnot:E[i].ap.bo[j]∉t2.map (·.1):=by
    rw [hm2]
    intro hmem
    have h2:(((E.take i).flatMap fun e=>e.ap.bo)++E[i].ap.bo.take (j+1)).Nodup:=hnd.sublist (List.Sublist.append_left (List.take_sublist _ _) _)
    rw [pf hj', <-List.append_assoc]at h2
    exact(List.nodup_append.1 h2).2.2 _ hmem _ sm rfl
   rw [mHas_at hnot,if_neg sm,mPut_at hnot,w64 za za]
   refine Ok.nx ⟨j+1,rfl,hj',?_⟩ zc
   rw [List.map_append,hm2,pf hj',List.append_assoc];rfl
  ·obtain⟨m,rfl,hm3⟩:=ho
   dsimp only
   rw [w64 za za]
   exact Ok.nx ⟨i+1,rfl,hi',hm3⟩ zc
 refine Ok.ia (fun hpos=>?_) (fun _=>k18)
 rw [w64 za za,iT (i:=i-1) za za,zd,cmpE_eq,zd]
 have:=List.pairwise_iff_getElem.1 h.asc (i-1) i za hi' za
 rw [if_neg (by simpa using this)]
 exact k18
theorem nodup_parts{α β:Type}{f:α->List β}:∀{l:List α},(l.flatMap f).Nodup->l.Pairwise fun a b=>∀x∈f a,x∉f b
 | [],_=>.nil
 |a::l,h=>by
  rw [List.flatMap_cons,List.nodup_append]at h
  refine List.pairwise_cons.2 ⟨fun b hb x hx hx'=>h.2.2 x hx x (List.mem_flatMap.2 ⟨b,hb,hx'⟩) rfl,nodup_parts h.2.1⟩
theorem flat_perm{α β:Type}{f g:α->List β}:∀{l:List α},(∀a∈l,(f a).Perm (g a))->(l.flatMap f).Perm (l.flatMap g)
 | [],_=>List.Perm.refl _
 |a::l,h=>by
  rw [List.flatMap_cons,List.flatMap_cons]
  exact(h a sm).append (flat_perm fun b hb=>h b (List.mem_cons_of_mem _ hb))
theorem found_perm{s:ak}(hs:ke s){v:aq}(hv:l7 v){U:List Pick}(hU:U.Pairwise fun x y=>dz x y<0)(hus:UsOk s v U)(hl:U.length<=12):(((fE s v U).flatMap fun e=>e.ap.bo)++fR s v U).Perm U:=by
 refine List.Perm.trans ?_ (ny hs (v:=v) hU)
 refine List.Perm.append ?_ (cz _ _)
 have h1:((fE s v U).flatMap fun e=>e.ap.bo).Perm (((qH s v (mH s v U)).1.map fun g=>evM s v (cG cP g)).flatMap fun e=>e.ap.bo):=(cz _ _).flatMap_right _
 refine h1.trans ?_
 rw [List.flatMap_map]
 have h2:=flat_perm (f:=fun g=>(evM s v (cG cP g)).ap.bo) (g:=id) (l:=(qH s v (mH s v U)).1) fun g hg=>by
  rw [(rR hs hv hU hus hl hg).picks]
  exact cz _ g
 refine h2.trans ?_
 rw [List.flatMap_id]
theorem found_ok{s:ak}(hs:ke s){v:aq}(hv:l7 v){U:List Pick}(hU:U.Pairwise fun x y=>dz x y<0)(hus:UsOk s v U)(hl:U.length<=12):EvsOk (fE s v U):=by
 have hperm:=found_perm hs hv hU hus hl
 have hnd:((fE s v U).flatMap fun e=>e.ap.bo).Nodup:=(List.nodup_append.1 (hperm.nodup_iff.2 (gc cj hU))).1
 have hone:∀e∈fE s v U,e.ap.bo≠ []∧e.ap.bo.length<=100∧(e.ap.bo.Pairwise fun x y=>dz x y<0)∧e.bd=nm e.ap.bo:=fun e he=>by
  obtain⟨g,hg,rfl⟩:=fE_mem.1 he
  have h:=rR hs hv hU hus hl hg
  have h1:=h.least;have h2:=h.len;have h3:=hs.least.1
  have h4:=ef cP g
  rw [h.picks]
  exact⟨fun hn=>by rw [hn]at h4;simp at h4;omega,za,h.asc,rfl⟩
 refine⟨by have:=fE_len hs (v:=v) hU;omega,hone,?_,hnd⟩
 have hle:(fE s v U).Pairwise fun x y=>nN x.bd y.bd<=0:=sortI_le (pz.map fun e:az=>e.bd) _
 have hdis:=nodup_parts hnd
 refine List.pairwise_iff_forall_sublist.2 fun{a b}hab=>?_
 have h1:=List.pairwise_iff_forall_sublist.1 hle hab
 have h2:=List.pairwise_iff_forall_sublist.1 hdis hab
 rcases Int.lt_or_eq_of_le h1 with h|h
 ·exact h
 ·obtain⟨a1, -, -,a4⟩:=hone a (hab.subset sm)
  obtain⟨b1, -, -,b4⟩:=hone b (hab.subset sm)
  have hab':=cmpE_zero h
  have ha:=(nm_least a1).1
  have hb:=(nm_least b1).1
  rw [<-a4]at ha
  rw [<-b4, <-hab']at hb
  exact(h2 _ ha hb).elim
theorem least_events{s:ak}(hs:ke s){v:aq}(hv:l7 v){U:List Pick}(hU:U.Pairwise fun x y=>dz x y<0)(hus:UsOk s v U)(hl:U.length<=12){e:az}(he:e∈fE s v U):s.ag.cm<=(e.ap.bo.length:Int):=by
 obtain⟨g,hg,rfl⟩:=fE_mem.1 he
 have h:=rR hs hv hU hus hl hg
 have:=h.least
 rw [h.picks,ef]
 omega
theorem eqF_if{α:Type}{a b:Pick}(x y:α):(if(((a.aC.aY==b.aC.aY)&&((a.aC.aM==b.aC.aM)&&((a.aC.aj==b.aC.aj)&&((a.aC.a7==b.aC.a7)&&true))))&&((a.a8==b.a8)&&((a.aP==b.aP)&&((a.bh==b.bh)&&((a.aS==b.aS)&&((a.aT==b.aT)&&true))))))=true then x else y)=if a=b then x else y:=by
 have:=eqs a b
 unfold eqF at this
 rw [this]
 by_cases h:a=b<;>simp [h]
theorem parts_l38{x5:List az×List Pick×Int}{x2:ak×ae}{y:Pick}(hle:∀e∈x5.1,x2.1.ag.cm<=(e.ap.bo.length:Int)∧e.ap.bo.length<=100)(hl:x5.1.length<=100)(s14:Int):
  eO (ek x5 x2 y) ((0:Int),s14,(0:Int))=some (.inl (((x5.1.flatMap fun e=>e.ap.bo).count y:Int),s14)):=by
 have key:∀(k i:Nat)(c:Int),i+k=x5.1.length->0<=c->c<=100*i->eO (ek x5 x2 y) (c,s14,(i:Int))=some (.inl (c+((x5.1.drop i).flatMap fun e=>e.ap.bo).count y,s14)):=by
  intro k
  induction k with
  |zero=>
   intro i c hi h0 hc
   obtain rfl:i=x5.1.length:=by omega
   rw [iE (o:= .inl (c,s14))]
   ·rw [List.drop_length];simp
   ·unfold ek
    dsimp only
    rw [if_neg sm]
  |succ k ih=>
   intro i c hi h0 hc
   have hlt:i<x5.1.length:=by omega
   obtain⟨e1,e2⟩:=hle _ (List.getElem_mem hlt)
   have h36:eO (fK x5.1[i] y s14 (i:Int)) (c,(0:Int))=some (c+(x5.1[i].ap.bo.count y:Int),s14,(i:Int)):=by
    refine count_loop (g:=fun c=>(c,s14,(i:Int))) (C:=100*i) (fun j hj c' h0' hc'=>?_) (fun c' h0' hc'=>?_) h0 hc
    ·unfold fK
     dsimp only
     rw [if_pos so,iT (i:=j) rfl hj,zd,eqF_if,w64 (n:=(j:Int)+1) za za,w64 (n:=c'+1) za za]
     split<;>rfl
    ·unfold fK
     dsimp only
     rw [if_neg sm]
   have hcount:(x5.1[i].ap.bo.count y:Int)<=100:=by
    have:=List.count_le_length (a:=y) (l:=x5.1[i].ap.bo)
    omega
   rw [mh (s':=(c+(x5.1[i].ap.bo.count y:Int),s14,((i+1:Nat):Int)))]
   ·rw [ih (i+1) _ za za za,List.drop_eq_getElem_cons hlt,List.flatMap_cons,List.count_append]
    congr 3
    omega
   ·unfold ek
    dsimp only
    rw [if_pos so,iT (i:=i) rfl hlt,zd,if_neg so,h36,zd]
    dsimp only
    rw [w64 za za]
    rfl
 have:=key x5.1.length 0 0 za (Int.le_refl _) za
 simpa using this
theorem EventParts_law(a0:List Int):lx a0=some true:=by
 refine Ok.eq ?_
 unfold lx
 refine Ok.bind (new_ok a0) (fun x1 h1=>?_)
 refine Ok.bind ((settingsV (k:=4) za x1 h1).both (settings_ok (k:=4) za x1 h1)) (fun x2⟨⟨ha,h2⟩,hset,_⟩=>?_)
 refine Ok.bind (sitesV (n:=6) x2.2 h2) (fun x3⟨⟨hv,hv2⟩,h3⟩=>?_)
 refine Ok.bind (picks_ok x2.1 hset x3.1 hv.inv 12 za x3.2 h3) (fun x4⟨⟨l4,p4⟩,h4⟩=>?_)
 obtain⟨L,eL,sL,mL,nL,hU,hus,hUl,hf⟩:=find_ok ha hv (l:=x4.1) za p4
 have hUl':(bR x2.1 x3.1 L).length<=12:=by omega
 have hok:=found_ok ha hv hU hus hUl'
 have hperm:=found_perm ha hv hU hus hUl'
 have hnd:=gc cj hU
 rw [hf,zd,if_neg sm,valid_events hok,zd,if_neg sm]
 obtain⟨L',eL',sL',mL'⟩:=ref_Sort_eq (l:=x4.1) za
 obtain rfl:L'=L:=jU sL' sL fun p=>by rw [mL',mL]
 rw [eL',zd]
 have hfR:=fR_len ha (v:=x3.1) hU
 refine Ok.bind (P:=fun o=>o= .inl ()) ?_ (fun o ho=>by subst ho;dsimp only;rw [awake_at];exact Ok.ret rfl)
 refine Ok.of (kx L'.length (fun i hi=>?_) ?_) rfl
 ·have hyp:=p4 _ ((mL _).1 (List.getElem_mem hi))
  unfold iU
  rw [if_pos so,iT (i:=i) rfl hi,zd,parts_l38 (fun e he=>⟨least_events ha hv hU hus hUl' he,(hok.one e he).2.1⟩) hok.len,zd]
  dsimp only
  have h49:eO (fM (fE x2.1 x3.1 (bR x2.1 x3.1 L'),fR x2.1 x3.1 (bR x2.1 x3.1 L'),0) L'[i]) ((((fE x2.1 x3.1 (bR x2.1 x3.1 L')).flatMap fun e=>e.ap.bo).count L'[i]:Int),(0:Int))=
    some ((((fE x2.1 x3.1 (bR x2.1 x3.1 L')).flatMap fun e=>e.ap.bo).count L'[i]:Int)+((fR x2.1 x3.1 (bR x2.1 x3.1 L')).count L'[i]:Int)):=by
   have hc:=List.count_le_length (a:=L'[i]) (l:=(fE x2.1 x3.1 (bR x2.1 x3.1 L')).flatMap fun e=>e.ap.bo)
   have hpl:=hperm.length_eq
   rw [List.length_append]at hpl
   refine count_loop (l:=fR x2.1 x3.1 (bR x2.1 x3.1 L')) (g:=fun c=>c) (C:=100) (fun j hj c' h0' hc'=>?_) (fun c' h0' hc'=>?_) za za
   ·unfold fM
    dsimp only
    rw [if_pos so,iT (i:=j) rfl hj,zd,eqF_if,w64 (n:=(j:Int)+1) za za,w64 (n:=c'+1) za za]
    split<;>rfl
   ·unfold fM
    dsimp only
    rw [if_neg sm]
  rw [h49,zd,usable1_at ha hv hyp,zd]
  dsimp only
  have hcount:(((fE x2.1 x3.1 (bR x2.1 x3.1 L')).flatMap fun e=>e.ap.bo).count L'[i]:Int)+((fR x2.1 x3.1 (bR x2.1 x3.1 L')).count L'[i]:Int)=if(used x2.1 x3.1 L'[i]).2.2=true then 1 else 0:=by
   have h1:=hperm.count_eq L'[i]
   rw [List.count_append]at h1
   have h2:(bR x2.1 x3.1 L').count L'[i]=if(used x2.1 x3.1 L'[i]).2.2=true then 1 else 0:=by
    split
    ·rename_i hu
     have c1:=List.count_pos_iff.2 (show L'[i]∈bR x2.1 x3.1 L' from List.mem_filter.2 ⟨List.getElem_mem hi,hu⟩)
     have c2:=List.nodup_iff_count.1 hnd L'[i]
     omega
    ·rename_i hu
     exact List.count_eq_zero_of_not_mem fun hm=>hu (List.mem_filter.1 hm).2
   rw [h2]at h1
   split at h1<;>rename_i hu
   ·rw [if_pos hu];omega
   ·rw [if_neg hu];omega
  rw [hcount]
  by_cases hu:(used x2.1 x3.1 L'[i]).2.2=true
  ·rw [if_pos hu,hu,if_neg sm,if_neg sm,w64 za za]
   rfl
  ·have hu':(used x2.1 x3.1 L'[i]).2.2=false:=by simpa using hu
   rw [if_neg hu,hu',if_neg sm,if_pos sm,if_neg sm,w64 za za]
   rfl
 ·unfold iU
  rw [if_neg sm]
end Go.Dw.Et
