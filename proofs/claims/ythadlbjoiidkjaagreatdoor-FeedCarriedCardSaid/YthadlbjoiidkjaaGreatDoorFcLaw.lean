
import Derived.Test.YthadlbjoiidkjaaGreatDoorFcLawT

set_option maxRecDepth 100000
set_option maxHeartbeats 4000000
namespace Go.Dw.Fc
open Go.Dw Go.Proofs
theorem pk(d:Src)(hd:dw d):Ok (fN d) (fun r=>k8 r.1∧dw r.2):=by
 unfold fN
 refine Ok.bind (k7 _ _ hd za za) (fun x hx=>?_)
 refine Ok.bind (k7 _ _ hx.2.2 za za) (fun y hy=>?_)
 refine Ok.bind (k7 _ _ hy.2.2 za za) (fun z hz=>?_)
 exact Ok.ret ⟨⟨⟨hy.1,zb⟩,hz.1,zb⟩,hz.2.2⟩
theorem new_session{n:Int}(h0:1<=n)(h1:n<=4):ln 200 n=some (⟨0,n,0,⟨200,0,[]⟩,⟨[],[]⟩,⟨0,0,[]⟩,⟨0,0,[]⟩,[]⟩,0):=by
 unfold ln o5
 rw [din_t za,zc,if_neg (by decide),zc,if_neg (by decide),sin_t za,zc,if_neg (by decide)];rfl
theorem ses_new{all:List Bul}(h64:all.length<=64){n:Int}(h0:1<=n)(h1:n<=4):jF all 0 0 ⟨0,n,0,⟨200,0,[]⟩,⟨[],[]⟩,⟨0,0,[]⟩,⟨0,0,[]⟩,[]⟩:=
 ⟨rfl,za,za,h0,h1,by simp [cr],⟨za,h64,by simp [cr]⟩,sm,sm,rfl,⟨⟨sm,sm⟩,fun t h=>(hasS_nil t h).elim⟩,wire_new,wire_new,⟨sm,sm,sm,sm,sm,sm⟩⟩
theorem push_loop{all:List Bul}(hall:kD all)(h64:all.length<=64){x:List Bul×Src}(hx:x.1=all){i now:Int}{nx:Nat}{s:aK}{L:List Int}{a:Int}(hs:jF all nx now s)(hd:dw ⟨L,a⟩):
  Ok (kG (fA x i) ((nx:Int),L,a,s.bt,s.br,s.bY,s.bj.c8,s.bj.bJ,s.bj.ch,s.bo.eU,s.bo.c7,s.bF.bt,s.bF.ba,s.bF.bq,s.fUp.bt,s.fUp.ba,s.fUp.bq,s.bp))
   (fun o=>o= .inr true∨∃(nx:Nat)(s:aK)(L:List Int)(a:Int),o= .inl ((nx:Int),i,L,a,s.bt,s.br,s.bY,s.bj.c8,s.bj.bJ,s.bj.ch,s.bo.eU,s.bo.c7,s.bF.bt,s.bF.ba,s.bF.bq,s.fUp.bt,s.fUp.ba,s.fUp.bq,s.bp)∧jF all nx now s∧dw ⟨L,a⟩):=by
 subst hx
 refine Ok.loop (fun st=>∃(nx:Nat)(s:aK)(L:List Int)(a:Int),st=((nx:Int),L,a,s.bt,s.br,s.bY,s.bj.c8,s.bj.bJ,s.bj.ch,s.bo.eU,s.bo.c7,s.bF.bt,s.bF.ba,s.bF.bq,s.fUp.bt,s.fUp.ba,s.fUp.bq,s.bp)∧jF x.1 nx now s∧dw ⟨L,a⟩) (fun st=>((x.1.length:Int)-st.1).toNat) ?_
  ⟨nx,s,L,a,rfl,hs,hd⟩
 rintro _ ⟨nx,s,L,a,rfl,hs,hd⟩
 unfold fA
 dsimp only
 refine Ok.pM (fun hlt=>?_) (fun _=>Ok.st (.inr ⟨nx,s,L,a,rfl,hs,hd⟩))
 have hnx:nx<x.1.length:=by omega
 refine Ok.bind (k7 _ _ hd za za) (fun y hy=>?_)
 refine Ok.uE (fun _=>?_) (fun _=>Ok.st (.inr ⟨nx,s,_,_,rfl,hs,hy.2.2⟩))
 rw [p7 rfl hnx,zc,encode_at (hall.2.1 _ (List.getElem_mem hnx)),zc,if_neg sm]
 refine Ok.bind (pk _ hy.2.2) (fun f hf=>?_)
 refine Ok.bind (hs.push hnx hf.1) (fun r hr=>?_)
 rcases hr with hr|⟨hr0,hr1,hr2⟩
 ·rw [hr,if_pos (by decide),awake_at]
  exact Ok.st (.inl rfl)
 ·rw [hr0,if_neg (by decide),if_neg (by decide),hr1,if_neg sm,w64 za za]
  exact Ok.nx ⟨nx+1,r.1,_,_,sm,hr2,hf.2⟩ zb
theorem tick_loop{all:List Bul}(hall:kD all)(h64:all.length<=64){x:List Bul×Src}(hx:x.1=all){s:aK}{L:List Int}{a:Int}(hs:jF all 0 0 s)(hd:dw ⟨L,a⟩):
  Ok (kG (fB x) ((0:Int),(0:Int),L,a,s.bt,s.br,s.bY,s.bj.c8,s.bj.bJ,s.bj.ch,s.bo.eU,s.bo.c7,s.bF.bt,s.bF.ba,s.bF.bq,s.fUp.bt,s.fUp.ba,s.fUp.bq,s.bp))
   (fun o=>o= .inl ()∨o= .inr true):=by
 refine Ok.loop (fun st=>∃(nx i:Nat)(s:aK)(L:List Int)(a:Int),st=((nx:Int),(i:Int),L,a,s.bt,s.br,s.bY,s.bj.c8,s.bj.bJ,s.bj.ch,s.bo.eU,s.bo.c7,s.bF.bt,s.bF.ba,s.bF.bq,s.fUp.bt,s.fUp.ba,s.fUp.bq,s.bp)∧i<=30∧jF all nx (i:Int) s∧dw ⟨L,a⟩) (fun st=>((30:Int)-st.2.1).toNat) ?_
  ⟨0,0,s,L,a,rfl,za,hs,hd⟩
 rintro _ ⟨nx,i,s,L,a,rfl,i1,hs,hd⟩
 unfold fB
 dsimp only
 refine Ok.pM (fun hlt=>?_) (fun _=>Ok.st (.inl rfl))
 refine Ok.bind (push_loop hall h64 hx (i:=(i:Int)) hs hd) (fun o ho=>?_)
 rcases ho with rfl|⟨nx,s,L,a,rfl,hs,hd⟩
 ·exact Ok.st (.inr rfl)
 dsimp only
 refine Ok.bind (pk _ hd) (fun f1 h1=>?_)
 refine Ok.bind (pk _ h1.2) (fun f2 h2=>?_)
 refine Ok.bind (pk _ h2.2) (fun f3 h3=>?_)
 refine Ok.bind (hs.tick za (fd:=[f1.1,f2.1]) (fu:=[f3.1]) ⟨sm,fun f hf=>?_⟩ ⟨sm,fun f hf=>?_⟩) (fun t ht=>?_)
 ·rcases List.mem_cons.1 hf with rfl|hf
  ·exact h1.1
  ·rw [List.mem_singleton.1 hf];exact h2.1
 ·rw [List.mem_singleton.1 hf];exact h3.1
 obtain⟨t0,t1⟩:=ht
 rw [t0,if_neg (by decide)]
 have hdl:=t1.del.len
 have hle:=t1.ok.le
 refine Ok.bind (prefix_at hall za (fun b hb=>by obtain⟨k,k1, -,k3⟩:=t1.del.arr b hb;exact⟨k,k1,k3⟩)) (fun p hp=>?_)
 obtain⟨m,m1,rfl,m2, -⟩:=hp
 have hm:m<=nx:=by
  by_cases hmn:m<=nx
  ·exact hmn
  ·obtain⟨b,hb,hbq⟩:=m2 nx za
   obtain⟨k, -,k2,k3, -⟩:=t1.del.arr b hb
   omega
 have hlen:(all.take m).length=m:=by simp;omega
 rw [hlen,if_neg so,hx]
 have hcut:si all 0 (m:Int)=some (all.take m):=by
  unfold si
  rw [if_pos ⟨Int.le_refl _,za,za⟩];simp
 rw [hcut,zc,sames_self za (fun b hb=>by have:=(hall.2.1 b (List.mem_of_mem_take hb)).ev.sol.len;omega),zc,if_neg (by decide),w64 za za]
 exact Ok.nx ⟨nx,i+1,t.1,_,_,sm,za,by simpa using t1,h3.2⟩ zb
theorem law_FeedCarried(l:List Int):iu l=some true:=by
 refine Ok.eq ?_
 unfold iu
 refine Ok.bind (new_ok l) (fun d hd=>?_)
 refine Ok.bind (told_ok d hd) (fun x hx=>?_)
 obtain⟨⟨hall,h64⟩,hd2⟩:=hx
 refine Ok.bind (k7 _ _ hd2 za za) (fun y hy=>?_)
 rw [w64 (n:=1+y.1) za za,new_session za za,zc,if_neg sm]
 refine Ok.bind (tick_loop hall h64 rfl (ses_new h64 (n:=1+y.1) za za) hy.2.2) (fun o ho=>?_)
 rcases ho with rfl|rfl
 ·dsimp only
  rw [awake_at];exact Ok.ret rfl
 ·exact Ok.ret rfl
end Go.Dw.Fc
