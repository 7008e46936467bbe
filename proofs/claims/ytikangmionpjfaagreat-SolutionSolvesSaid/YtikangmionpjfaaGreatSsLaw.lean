
import Derived.Test.YtikangmionpjfaaGreatSsLawPB
open Bool renaming false_eq_true->Cb
open Go.Dw.Ok renaming bind->Es, eq->Et, get->Eu, loop->Ez, nx->FB, pk->FC, ret->FF, st->FH, uW->FU, upto->FJ
open List renaming getElem_mem->C9

set_option maxRecDepth 100000
set_option maxHeartbeats 4000000
namespace Go.Dw.Ss
open Go.Dw Go.Proofs
theorem Usable_eq(s:aj){v:ac}(c:IA v){p:Pick}(hp:SLen p):∃r,jG s v p=some r∧eh s v p=some r:=by
 unfold jG
 rcases set_two s with⟨a,e2,hs⟩|⟨a,e2⟩
 rotate_left
 ·unfold eh
  rw [a,e2];exact⟨_,rfl,rfl⟩
 obtain⟨ok,l,j,k,a1,a2,rfl, -⟩:=used_eq hs e2 c hp
 rw [a,val_eq c]
 simp only [zc,bne_self_eq_false,Cb,if_false]
 cases g:Iv.vI v.bg with
 |true=>
  simp only [Bool.not_true,Cb,if_false]
  rw [a1,a2]
  exact⟨_,rfl,rfl⟩
 |false=>
  refine⟨_,rfl,?_⟩
  unfold eh
  have f:(atR v p.bc p.cb).2=1:=by unfold atR;rw [g];rfl
  rw [e2,ref_vp_eq hp,refAt_any c]
  simp only [zc,bne_self_eq_false,Cb,if_false,f]
  cases vPk p<;>rfl
theorem Problem_eq(s:aj){v:ac}(f:IA v){l:List Pick}(k:LS l):∃r,iX s v l=some r∧ef s v l=some r∧r.1.bT.length<=20:=by
 unfold iX
 rcases mat_two s f k with⟨e,g,h1,j⟩|⟨L,h⟩
 ·rw [h1,j]
  have:(e != 0)=true:=by simp [g]
  simp only [zc,this,if_true]
  exact⟨_,rfl,rfl,by simp [zPr]⟩
 rw [h.gat]
 simp only [zc,bne_self_eq_false,Cb,if_false]
 have hlen:=h.len
 rcases pr_two f h with⟨rfl,a,c⟩|⟨a,c,p⟩
 ·rw [a,c]
  exact⟨_,rfl,rfl,by simp [zPr]⟩
 ·rw [a,c]
  exact⟨_,rfl,rfl,by simpa [qP]using hlen⟩
def eqPk(x y:Pick):Bool:=((x.bc.bH==y.bc.bH)&&((x.bc.bv==y.bc.bv)&&((x.bc.bd==y.bc.bd)&&((x.bc.bL==y.bc.bL)&&true))))&&((x.cb==y.cb)&&((x.bV==y.bV)&&((x.ch==y.ch)&&((x.bK==y.bK)&&((x.bO==y.bO)&&true)))))
theorem eqPk_self(x:Pick):eqPk x x=true:=by simp [eqPk]
theorem loop_same{a b:List Pick}(h:a.length=b.length)(q:a.length<=1000):∃o,dE (dY a b) (0:Int)=some o∧dE (fx a b) (0:Int)=some o∧(a=b->o= .inl ()):=by
 have hf:fx a b=dY a b:=rfl
 rw [hf]
 have:Ok (dE (dY a b) (0:Int)) (fun o=>a=b->o= .inl ()):=by
  refine FJ a.length za (fun _=>True) trivial (fun i f h1 _=>?_)
  unfold dY
  refine FC (fun j=>?_) (fun _=>FH fun _=>rfl)
  refine Es (Eu f za) (fun x l=>Es (Eu f za) (fun y p=>?_))
  refine FU (fun k=>FH fun e=>?_) (fun _=>?_)
  ·subst e
   have:=l.2.symm.trans p.2
   cases this
   have c:eqPk x x=false:=k
   rw [eqPk_self]at c
   cases c
  ·rw [w64 za za]
   exact FB ⟨⟨za,za⟩,trivial⟩ za
 obtain⟨o,h1,g⟩:=this
 exact⟨o,h1,h1,g⟩
theorem samePicks_eq{a b:List Pick}(g:a.length<=1000)(j:b.length<=1000):∃r,jF a b=some r∧ig a b=some r∧(a=b->r=true):=by
 unfold jF ig
 by_cases h:a.length=b.length
 ·have:((a.length:Int) != (b.length:Int))=false:=by simp [h]
  simp only [this,Cb,if_false]
  obtain⟨o,h1,c,f⟩:=loop_same h g
  rw [h1,c]
  cases o with
  |inl u=>exact⟨_,rfl,rfl,fun _=>rfl⟩
  |inr r=>exact⟨_,rfl,rfl,fun e=>by cases f e⟩
 ·have:((a.length:Int) != (b.length:Int))=true:=by simp;omega
  simp only [this,if_true]
  exact⟨_,rfl,rfl,fun e=>absurd (congrArg List.length e) h⟩
theorem Same_eq(x y:bu)(f:x.mD.length<=1000)(g:y.mD.length<=1000):∃r,mf x y=some r∧lg x y=some r∧(x=y->r=true):=by
 unfold mf lg
 obtain⟨r,h1,a,c⟩:=samePicks_eq f g
 rw [h1,a]
 simp only [zc]
 by_cases e:x=y
 ·subst e
  rw [c rfl]
  simp
 ·suffices h:∀z:Option Bool,(∃r,z=some r)->∃r,z=some r∧z=some r∧(x=y->r=true)by
   refine h _ ?_
   split
   ·split
    ·split
     ·exact⟨_,rfl⟩
     ·exact⟨_,rfl⟩
    ·exact⟨_,rfl⟩
   ·exact⟨_,rfl⟩
  rintro z ⟨r,rfl⟩
  exact⟨r,rfl,rfl,fun h=>(e h).elim⟩
theorem bentLoop{v:ac}(h:IA v):dE (ik v) ((0:Int),[])=some v.bg:=by
 have hlen:=h.len.len
 refine Et (Ez (fun st=>∃i:Nat,st=((i:Int),v.bg.take i)∧i<=v.bg.length) (fun st=>((v.bg.length:Int)-st.1).toNat) ?_ ⟨0,rfl,Nat.zero_le _⟩)
 rintro st ⟨i,rfl,i1⟩
 unfold ik
 dsimp only
 refine FC (fun c=>?_) (fun a=>FH (by rw [List.take_of_length_le za]))
 have hi:i<v.bg.length:=by omega
 have he:=(h.len.all _ (C9 hi)).1
 rw [j0 rfl hi,zc,hP so,zc,hP so,zc,w64 za za]
 exact FB ⟨i+1,by rw [pn hi,List.nil_append];rfl,za⟩ zb
theorem IA.ow{v:ac}(h:IA v){c:aq}(hc:c∈v.bg):ChLen c∧Sq.mX c.bc:=⟨h.len.all c hc,h.src c hc⟩
theorem ia_of{l:List aq}(a:l.length<=1000)(h:∀c∈l,ChLen c∧Sq.mX c.bc):IA ⟨l⟩:=⟨⟨a,fun c hc=>(h c hc).1⟩,fun c hc=>(h c hc).2⟩
theorem ia_set{v:ac}(h:IA v){n:Nat}{c:aq}(hc:ChLen c∧Sq.mX c.bc):IA ⟨v.bg.set n c⟩:=by
 refine ia_of (by rw [List.length_set];exact h.len.len) fun x a=>?_
 rcases List.mem_or_eq_of_mem_set a with a|rfl
 ·exact h.ow a
 ·exact hc
theorem bentE_len{j:Int}{e:ba}(h:gq e.bQ):gq (bentE j e).bQ:=by
 unfold bentE
 split<;>exact h
theorem bentInv_ok{v:ac}(D:InvV v)(d:Src)(O:cy d):Ok (cZ v d) (fun r=>IA r.1):=by
 have h:=D.ia
 have hlen:=D.len
 unfold cZ Src_BentP
 rw [bentLoop h,zc]
 by_cases t:v.bg.length=0
 ·rw [if_pos (by simp [t])]
  exact FF h
 have N:((v.bg.length:Int)==(0:Int))=false:=by simp;intro e;rw [e]at t;simp at t
 rw [N]
 simp only [Cb,if_false]
 obtain⟨x,J,K,X,T⟩:=dU (v.bg.length:Int) d O za za
 obtain⟨y,L,Y,y3,y4⟩:=dU (5:Int) x.2 T za za
 have p:x.1.toNat<v.bg.length:=by omega
 have hc:=h.ow (C9 p)
 have I:v.bg[x.1.toNat]? =some v.bg[x.1.toNat]:=zd p
 have H:pb v.bg x.1=some v.bg[x.1.toNat]:=j0 za p
 rw [J,zc,ql za za,zc,L,zc]
 have C:=(D.all _ (C9 p)).2.ne
 obtain⟨e,r,he⟩:∃e r,v.bg[x.1.toNat].bA=e::r:=List.exists_cons_of_ne_nil C
 have k:∀f,uX v.bg x.1 f=some (v.bg.set x.1.toNat (f v.bg[x.1.toNat])):=fun f=>by
  unfold uX
  rw [if_pos K,I]
 have hw:∀j:Int,y.1=j->(j=1∨j=2)->Ok (bentW v d) (fun r=>IA r.1):=fun j W Q=>by
  unfold bentW
  rw [if_pos ⟨h.len.len,fun c hc=>(h.len.all c hc).1⟩,J,zc,L,zc,I]
  dsimp only
  rw [he]
  dsimp only
  rw [if_pos ⟨K,za⟩]
  refine FF (ia_set h ⟨⟨?_,fun z E=>?_⟩,hc.2⟩)
  ·have:=hc.1.1;rw [he]at this;simpa using this
  ·have a:=hc.1.2
   rw [he]at a
   rcases List.mem_cons.1 E with rfl|E
   ·exact bentE_len (a e sm)
   ·exact a z (by simp [E])
 by_cases F:y.1=0
 ·rw [if_pos (by simp [F]),k,zc]
  exact FF (ia_set h ⟨hc.1,hc.2.1,sm,hc.2.2.2⟩)
 rw [if_neg (by simp [F])]
 by_cases q:y.1=1
 ·rw [if_pos (by simp [q]),H,zc,zc,he]
  have:pb (e::r) (0:Int)=some e:=j0 (i:=0) rfl sm
  rw [this,zc,zc]
  exact hw 1 q (.inl rfl)
 rw [if_neg (by simp [q])]
 by_cases e2:y.1=2
 ·rw [if_pos (by simp [e2]),H,zc,he]
  have:pb (e::r) (0:Int)=some e:=j0 (i:=0) rfl sm
  rw [this,zc]
  exact hw 2 e2 (.inr rfl)
 rw [if_neg (by simp [e2])]
 by_cases G:y.1=3
 ·have l:0<v.bg.length:=by omega
  have B:=h.ow (C9 l)
  have u:pb v.bg (0:Int)=some v.bg[0]:=j0 (i:=0) rfl l
  rw [if_pos (by simp [G]),ql za za,zc,u,zc,hP so,zc]
  refine FF (ia_of so fun c g=>?_)
  rcases List.mem_append.1 g with g|g
  ·exact h.ow g
  ·rw [List.mem_singleton.1 g];exact B
 rw [if_neg (by simp [G]),k,zc]
 exact FF (ia_set h ⟨⟨sm,sm⟩,hc.2⟩)
theorem l165_ok{s:aj}{v:ac}(K:IA v){l:List Pick}(I:LS l)(F G H:Int)(a:List Pick)(c f g j k p q t u y z B C D E:Int):
  dE (eZ l s v F G H a c f g j k p q t u y z B C D E) (0:Int)=some (.inl (F,G,H,a,c,f,g,j,k,p,q,t,u,y,z,B,C,D,E)):=by
 have L:=I.1
 refine Et (FJ l.length za (fun _=>True) trivial (fun i J h1 _=>?_))
 unfold eZ
 refine FC (fun N=>?_) (fun _=>FH rfl)
 obtain⟨x,O,hm⟩:=Eu (l:=l) J za
 obtain⟨r,Q,T⟩:=Usable_eq s K (I.2 x hm.1)
 rw [O,zc,Q,zc,zc,T,zc,if_neg sm,if_neg sm,w64 za za]
 exact FB ⟨⟨za,za⟩,trivial⟩ za
theorem l189_ok(r:ai×Int)(g:r.1.bT.length<=20):dE (e7 r r) (0:Int)=some (.inl ()):=by
 refine Et (FJ r.1.bT.length za (fun _=>True) trivial (fun i a h1 _=>?_))
 unfold e7
 refine FC (fun c=>?_) (fun _=>FH rfl)
 obtain⟨x,f, -⟩:=Eu (l:=r.1.bT) a za
 rw [f,zc,zc,if_neg sm,w64 za za]
 exact FB ⟨⟨za,za⟩,trivial⟩ za
theorem l193_ok(K:List Pick×Src)(a2:List Pick)(s:aj){v:ac}(N:IA v)(L:LS K.1)(T:LS a2)(a b:Int)(q:List Pick)(X:q.length<=20)(c f g j k u z B C D E F G H I:Int):
  Ok (dE (e8 K a2 s v) (a,b,(0:Int),q,c,f,g,j,k,u,z,B,C,D,E,F,G,H,I)) (fun o=>∃y,o= .inl y∧y.1=a∧y.2.1=b∧y.2.2.1.length<=20):=by
 refine Ez (fun st=>st.1=a∧st.2.1=b∧st.2.2.2.1.length<=20∧0<=st.2.2.1∧st.2.2.1<=2) (fun st=>(2-st.2.2.1).toNat) ?_ ⟨rfl,rfl,X,sm,sm⟩
 rintro⟨a5,a6,a7,J,c,f,g,j,k,u,z,B,C,D,E,F,G,H,I⟩ ⟨i1,i2,i3,i4,i5⟩
 dsimp only at i1 i2 i3 i4 i5
 subst i1 i2
 unfold e8
 dsimp only
 refine FC (fun W=>?_) (fun _=>FH ⟨_,rfl,rfl,rfl,i3⟩)
 refine Es (Eu za so) (fun l Q=>?_)
 have O:LS l:=by
  rcases List.mem_cons.1 Q.1 with rfl|h
  ·exact L
  ·rw [List.mem_singleton.1 h];exact T
 rw [l165_ok N O,zc]
 dsimp only
 obtain⟨p,Y,p2,p3⟩:=Problem_eq s N O
 obtain⟨x,x1,x2,x3⟩:=Solve_eq s N O
 rw [Y,zc,p2,zc,x1,zc,x2,zc,if_neg sm,if_neg sm,if_neg sm,if_neg sm,if_neg sm]
 obtain⟨r,r1, -,r3⟩:=Same_eq x.1 x.1 za za
 rw [r1,zc,r3 rfl,if_neg sm]
 obtain⟨t,t1,t2, -⟩:=Same_eq x.1 (bu.mk J (al.mk (aa.mk c f g) j k u (ah.mk (aa.mk z B C) (aa.mk D E F))) (az.mk G H) I) za zb
 rw [t2,zc,t1,zc,if_neg sm,l189_ok p p3,zc]
 dsimp only
 rw [w64 za za]
 exact FB ⟨rfl,rfl,x3,zb,zb⟩ zb
theorem l197_ok(F G:ac×Src)(a1:ac)(c:List Pick×Src)(a2:List Pick)(s:aj)(H:IA F.1)(h1:IA a1)(J:IA G.1)(I:LS c.1)(Q:LS a2)(a:Int)(q:List Pick)(X:q.length<=20)(f g j k l p r t u x z B C D E:Int):
  Ok (dE (fb F a1 G c a2 s) (a,(0:Int),q,f,g,j,k,l,p,r,t,u,x,z,B,C,D,E)) (fun o=>∃y,o= .inl y∧y.1=a∧y.2.1.length<=20):=by
 refine Ez (fun st=>st.1=a∧st.2.2.1.length<=20∧0<=st.2.1∧st.2.1<=3) (fun st=>(3-st.2.1).toNat) ?_ ⟨rfl,X,sm,sm⟩
 rintro⟨L,N,O,f,g,j,k,l,p,r,t,u,x,z,B,C,D,E⟩ ⟨i1,i3,i4,i5⟩
 dsimp only at i1 i3 i4 i5
 subst i1
 unfold fb
 dsimp only
 refine FC (fun W=>?_) (fun _=>FH ⟨_,rfl,rfl,i3⟩)
 refine Es (Eu za so) (fun v K=>?_)
 have T:IA v:=by
  rcases List.mem_cons.1 K.1 with rfl|h
  ·exact H
  rcases List.mem_cons.1 h with rfl|h
  ·exact h1
  ·rw [List.mem_singleton.1 h];exact J
 refine Es (l193_ok c a2 s T I Q L N O i3 _ _ _ _ _ _ _ _ _ _ _ _ _ _ _) (fun o⟨y,ho,Y,y2,y3⟩=>?_)
 subst ho
 dsimp only
 rw [y2,w64 za za]
 exact FB ⟨Y,y3,zb,zb⟩ zb
theorem l201_ok(c3:aj×Src)(a0:aj)(K L N O Q T W:Int)(X Y:List Int)(a5 a6 a7 a8 a9 b0:Int)(b3 b4:List Int)(b5 b6 c0:Int)(a f:ac×Src)(a1:ac)(c:List Pick×Src)(a2:List Pick)(H:IA a.1)(h1:IA a1)(J:IA f.1)(I:LS c.1)(h2:LS a2)(q:List Pick)(hq:q.length<=20)(g j k l p r t u x z B C D E F:Int):
  dE (fc c3 a0 K L N O Q T W X Y a5 a6 a7 a8 a9 b0 b3 b4 b5 b6 c0 a a1 f c a2) ((0:Int),q,g,j,k,l,p,r,t,u,x,z,B,C,D,E,F)=some (.inl ()):=by
 refine Et (Ez (fun st=>st.2.1.length<=20∧0<=st.1∧st.1<=3) (fun st=>(3-st.1).toNat) ?_ ⟨hq,sm,sm⟩)
 rintro⟨c1,c2,g,j,k,l,p,r,t,u,x,z,B,C,D,E,F⟩ ⟨i3,i4,i5⟩
 dsimp only at i3 i4 i5
 unfold fc
 dsimp only
 refine FC (fun c4=>?_) (fun _=>FH rfl)
 refine Es (Eu za so) (fun s _=>?_)
 have hV:∃e,db s=some e∧cw s=some e:=by
  rcases set_two s with⟨G,e2, -⟩|⟨G,e2⟩<;>exact⟨_,G,e2⟩
 obtain⟨e,G,e2⟩:=hV
 rw [G,zc,e2,zc,if_neg sm]
 refine Es (l197_ok a f a1 c a2 s H h1 J I h2 c1 c2 i3 _ _ _ _ _ _ _ _ _ _ _ _ _ _ _) (fun o⟨y,ho,y1,y2⟩=>?_)
 subst ho
 dsimp only
 rw [y1,w64 za za]
 exact FB ⟨y2,zb,zb⟩ zb
theorem ou(a0:aj)(a1:ac)(a2:List Pick)(l:List Int)(h1:ArgI a1)(C:∀p∈a2,SLen p):fk a0 a1 a2 l=some true:=by
 refine Et ?_
 unfold fk
 have hc:nW=some true:=rfl
 rw [hc]
 refine Es (smallS a0) (fun b _=>FU (fun _=>FF rfl) (fun _=>?_))
 refine Es (smallI a1 h1) (fun b E=>FU (fun _=>FF rfl) (fun x=>?_))
 refine FC (fun _=>FF rfl) (fun hlen=>?_)
 refine Es (new_ok l) (fun F D=>?_)
 refine Es (settings_ok (k:=3) za _ D) (fun j a=>?_)
 refine Es ((sites_ok _ a.2).both (sitesV (n:=6) _ a.2)) (fun q c=>?_)
 refine Es (picks_ok j.1 a.1.1 q.1 c.1.1 7 za _ c.1.2) (fun r f=>?_)
 have y:=a.1.1.2
 refine Es (bentSettings_ok j.1 (by have:=y.len;omega) (by have:=y.len;have:=y.same;omega) (by have:=a.1.2.1;omega) (by have:=a.1.2.2;omega) _ f.2) (fun z t=>?_)
 refine Es (bentInv_ok c.2.1.1 _ t) (fun B u=>?_)
 refine Es (smallS z.1) (fun b _=>?_)
 have g:LS r.1:=⟨by have:=f.1.1;omega,fun p hp=>sid_len (f.1.2 p hp).1⟩
 refine FU (fun _=>?_) (fun _=>?_)<;>
 ·unfold dS
  rw [l201_ok _ _ _ _ _ _ _ _ _ _ _ _ _ _ _ _ _ _ _ _ _ _ q B a1 r a2 c.2.1.1.ia (E x) u g ⟨za,C⟩ [] sm]
  exact FF rfl
end Go.Dw.Ss
