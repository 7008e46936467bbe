
import Derived.Test.YtgiepghgloiinaaGreatDoorIxLaw
open Bool renaming and_eq_true->Ac
open List renaming getElem_mem->Ah, length_set->A0, mem_or_eq_of_mem_set->A4
open Int renaming toNat->CI, toNat_natCast->B5

set_option maxRecDepth 100000
set_option maxHeartbeats 4000000
namespace Go.Dw.Ix
open Go.Dw
theorem vE_parts{e:Epoch}(h:vE e=true)(f:ROk e.aB):e.aB.aA.length<=8∧∀s∈e.aB.aA,s.aO.length<=128:=by
 unfold vE at h
 simp only [Ac]at h
 have b:=h.2.2.2.2.1
 unfold vP at b
 simp only [Ac,decide_eq_true_eq]at b
 refine⟨b.1,fun s c=>?_⟩
 have a:=List.all_eq_true.1 b.2.1 s c
 unfold vS at a
 split at a
 ·simp only [Ac,decide_eq_true_eq]at a
  rw [a.1.1.1.1.1.1.1.1];simp
 ·split at a
  ·simp only [Ac,decide_eq_true_eq]at a
   rw [a.1.1.1.1.1];simp
  ·split at a
   ·simp only [Ac]at a
    have:=a.1.1.1.1.2
    unfold inB at this
    simp at this
    omega
   ·cases a
def oddFit(l:List Chan):Prop:=l.length<=1000∧∀c∈l,c.al.length<=1000∧∀e∈c.al,e.aB.aA.length<=1000∧∀s∈e.aB.aA,s.aO.length<=1000
theorem IV_fit{l:List Chan}(h:IV l):oddFit l:=by
 refine⟨by have:=h.2.2;omega,fun c hc=>?_⟩
 obtain⟨-, -,f,a, -⟩:=h.1 c hc
 refine⟨om,fun e he=>?_⟩
 obtain⟨h1,b⟩:=vE_parts (a e he).1 (a e he).2
 exact⟨om,fun s g=>by have:=b s g;omega⟩
theorem IOk.set{l:List Chan}(hl:IOk l){c:Chan}(hc:COk c)(i:Nat):IOk (l.set i c):=
 ⟨by rw [A0];exact hl.1,fun x a=>(A4 a).elim (hl.2 x) (fun e=>e▸hc)⟩
theorem pickM{l:List Int}{d:Dice}(h1:1<=l.length)(c:l.length<=1000000)(hd:aV d):∃v a,bK l d=some (v,a)∧aV a:=by
 obtain⟨v,a,h, -,b⟩:=f8 h1 c hd
 exact⟨v,a,h,b⟩
theorem setF_at{α:Type}{l:List α}{i:Nat}(h:i<l.length)(f:α->α):lG l i f=l.set i (f l[i]):=by
 unfold lG
 rw [zc h]
theorem IOk.lG{l:List Chan}(hl:IOk l){E:List Epoch}(h1:E.length<=1000000)(a:∀e∈E,ROk e.aB)(i:Nat):IOk (lG l i (fun z=>⟨z.aj,E⟩))∧(lG l i (fun z:Chan=>⟨z.aj,E⟩)).length=l.length:=by
 by_cases hi:i<l.length
 ·rw [setF_at hi]
  exact⟨hl.set (c:=⟨l[i].aj,E⟩) ⟨(hl.2 _ (Ah hi)).1,(by show E.length<=4000000000;omega),a⟩ i,A0 ..⟩
 ·unfold Dw.lG
  rw [List.getElem?_eq_none om]
  exact⟨hl,rfl⟩
theorem odd_ok:OddOk:=by
 intro l d hl hd
 have hi:=IV_I hl
 have X:=hl.2.2
 have y:=IV_fit hl
 unfold fc
 rw [copyI hi,zb]
 simp only
 by_cases W:l.length=0
 ·have Q:l=[]:=List.eq_nil_of_length_eq_zero W
  obtain⟨a,G,I,ha,J⟩:=ji hd
  rw [if_pos (by simp [Q]),I]
  exact⟨_,G,rfl,J,IOk.cons1 ⟨(iU ha).1,sm,fun e he=>by simp at he⟩,sm⟩
 obtain⟨v,d1,I,v0,v1,K⟩:=aT (k:=(l.length:Int)) om om hd
 obtain⟨i,rfl⟩:∃i:Nat,v=i:=⟨v.toNat,om⟩
 have r:i<l.length:=by omega
 have hc:=hl.1 _ (Ah r)
 have h1:=hc.2.1
 have a4:=hc.2.2.1
 obtain⟨w,d2,e2,w0,w1,L⟩:=aT (k:=(l[i].al.length:Int)) om om K
 obtain⟨j,rfl⟩:∃j:Nat,w=j:=⟨w.toNat,om⟩
 have o:j<l[i].al.length:=by omega
 obtain⟨z,d3,Y,z0,z1,g⟩:=aT (k:=9) om om L
 have b:COk l[i]:=hi.2 _ (Ah r)
 have u:∀k:Nat,atO (k:Int) (CI (k:Int))=some ():=fun k=>by simp [atO]
 have N:jB l (i:Int)=some l[i]:=dR (i:=i) rfl r
 have O:jB l[i].al (j:Int)=some l[i].al[j]:=dR (i:=j) rfl o
 have B:inO l (i:Int)=some ():=lY om om
 have C:inO l[i].al (j:Int)=some ():=lY om om
 rw [if_neg (by simp;exact fun e=>W (by rw [e];rfl)),I,zb]
 simp only
 rw [B,zb,N,zb,u,zb,zb,e2,zb]
 simp only
 rw [C,zb,Y,zb]
 simp only [O,zb]
 obtain⟨g1,g2⟩:=(y.2 _ (Ah r)).2 _ (Ah o)
 have H:∀f:Epoch->Epoch,oT l[i].al (j:Int) f=some (l[i].al.set j (f l[i].al[j])):=fun f=>iB (i:=j) rfl o
 have fin:∀(M:List Chan)(E:List Epoch)(q:Dice),IOk M->M.length=l.length->aV q->E.length<=1000000->(∀e∈E,ROk e.aB)->
   ∃m G,bF q.fL q.fAt (lG M (CI (i:Int)) (fun z=>⟨z.aj,E⟩))=some (⟨m⟩,G)∧aV G∧IOk m∧m.length<=1000000:=fun M E q hM a5 t hE hR=>by
  obtain⟨f1,f2⟩:=hM.lG hE hR (CI (i:Int))
  exact⟨_,q,rfl,t,f1,by rw [f2];omega⟩
 have fE:∀(e:Epoch),ROk e.aB->∀x∈l[i].al.set j e,ROk x.aB:=fun e he x F=>by
  rcases A4 F with F|F
  ·exact b.2.2 x F
  ·rw [F];exact he
 have p:ROk l[i].al[j].aB:=b.2.2 _ (Ah o)
 have hz:z=0∨z=1∨z=2∨z=3∨z=4∨z=5∨z=6∨z=7∨z=8:=by omega
 rcases hz with rfl|rfl|rfl|rfl|rfl|rfl|rfl|rfl|rfl
 ·rw [if_pos (by decide),iB (l:=l) (n:=(i:Int)) (i:=i) rfl r,zb]
  exact fin _ _ d3 (IOk.set hi (c:=⟨⟨[103,114],l[i].aj.aC,l[i].aj.au,l[i].aj.aF⟩,l[i].al⟩) ⟨⟨sm,b.1.2.1,b.1.2.2.1,b.1.2.2.2⟩,b.2⟩ i) sm g om b.2.2
 ·rw [if_neg (by decide),if_pos (by decide)]
  exact fin _ _ d3 hi rfl g sm (fun e he=>by simp at he)
 ·rw [if_neg (by decide),if_neg (by decide),if_pos (by decide)]
  obtain⟨v,q,f2,t⟩:=pickM (l:=[-1,l[i].al[j].fTo,(IntKind.wrap .i64 (l[i].al[j].fTo-(1:Int))),0]) sm sm g
  rw [f2,zb]
  simp only
  rw [H,zb]
  exact fin _ _ q hi rfl t (by rw [A0];omega) (fE _ p)
 ·rw [if_neg (by decide),if_neg (by decide),if_neg (by decide),if_pos (by decide)]
  obtain⟨v,q,f2,t⟩:=pickM (l:=[9007199254740992,9007199254740993,l[i].al[j].az]) sm sm g
  rw [f2,zb]
  simp only
  rw [H,zb]
  exact fin _ _ q hi rfl t (by rw [A0];omega) (fE _ p)
 ·rw [if_neg (by decide),if_neg (by decide),if_neg (by decide),if_neg (by decide),if_pos (by decide)]
  obtain⟨v,q,f2,t⟩:=pickM (l:=[1048577, -1048576,3]) sm sm g
  obtain⟨v2,q2,f3,U⟩:=pickM (l:=[-16385,1048576,0]) sm sm t
  rw [f2,zb]
  simp only
  rw [f3,zb]
  simp only
  rw [H,zb]
  exact fin _ _ q2 hi rfl U (by rw [A0];omega) (fE _ p)
 ·rw [if_neg (by decide),if_neg (by decide),if_neg (by decide),if_neg (by decide),if_neg (by decide),if_pos (by decide)]
  obtain⟨v,q,f2, -, -,t⟩:=aT (k:=3) om om g
  rw [f2,zb]
  simp only
  rw [H,zb]
  exact fin _ _ q hi rfl t (by rw [A0];omega) (fE _ p)
 ·rw [if_neg (by decide),if_neg (by decide),if_neg (by decide),if_neg (by decide),if_neg (by decide),if_neg (by decide),if_pos (by decide),u,zb]
  obtain⟨v,q,f2, -, -,t⟩:=aT (k:=4) om om g
  rw [f2,zb]
  simp only
  rw [bA so,zb,zb]
  refine fin _ _ q hi rfl t ?_ ?_
  ·rw [B5,setF_at o,A0];omega
  ·rw [B5,setF_at o]
   refine fE _ ⟨so,fun s D=>?_⟩
   rcases List.mem_append.1 D with D|D
   ·exact p.2 s D
   ·rw [List.mem_singleton.1 D];simp
 ·rw [if_neg (by decide),if_neg (by decide),if_neg (by decide),if_neg (by decide),if_neg (by decide),if_neg (by decide),if_neg (by decide),if_pos (by decide)]
  obtain⟨f1,f2⟩:=hi.lG (E:=l[i].al) om b.2.2 (CI (i:Int))
  generalize hm:lG l (CI (i:Int)) (fun z:Chan=>(⟨z.aj,l[i].al⟩:Chan))=m at f1 f2
  have T:0<m.length:=by omega
  rw [lY om om,zb,dR (n:=(0:Int)) (i:=0) rfl T,zb,bA so,zb]
  refine⟨_,d3,rfl,g,⟨so,fun c hc=>?_⟩,so⟩
  rcases List.mem_append.1 hc with hc|hc
  ·exact f1.2 c hc
  ·rw [List.mem_singleton.1 hc];exact f1.2 _ (Ah _)
 ·rw [if_neg (by decide),if_neg (by decide),if_neg (by decide),if_neg (by decide),if_neg (by decide),if_neg (by decide),if_neg (by decide),if_neg (by decide),if_pos (by decide),bA so,zb]
  refine fin _ _ d3 hi rfl g so fun e he=>?_
  rcases List.mem_append.1 he with he|he
  ·exact b.2.2 e he
  ·rw [List.mem_singleton.1 he];exact p
theorem jx(t:List Int){w:List Chan}(hw:WOk w)(a2:Src)(a3:Int)(a4:List UInt8):cr t ⟨w⟩ a2 a3 a4=some true:=law_of odd_ok t hw a2 a3 a4
end Go.Dw.Ix
