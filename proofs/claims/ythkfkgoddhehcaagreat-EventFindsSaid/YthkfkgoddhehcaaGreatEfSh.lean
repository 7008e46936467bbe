
import Derived.Test.YthkfkgoddhehcaaGreatEfLaw
import Derived.Test.YthkfkgoddhehcaaGreatDwSh
import Derived.Test.YthkfkgoddhehcaaGreatProg

set_option maxRecDepth 100000
namespace Go.Dw.Ef
open Go.Proofs Go.Dw
def iY(x:aa):Prop:=((Lit.int .i64 x.fX).wf=true)∧((Lit.int .i64 x.fY).wf=true)∧((Lit.int .i64 x.fZ).wf=true)
theorem sh_23{d:Nat}{cs:List PD}(h:Sh Tryz.prog (d+2) 23 cs):∃a:aa,cs=a.pd.cells∧iY a:=by
 have l:cs.length=3:=(Sh.Aa (d:=d+1) Tryz.underlying23 h).trans (by kernel_rfl)
 have f0:Sh Tryz.prog (d+1) 3 ((cs.drop 0).take 1):=Sh.field (d:=d+1) Tryz.underlying23 h 0 rfl (by kernel_rfl)
 have f1:Sh Tryz.prog (d+1) 3 ((cs.drop 1).take 1):=Sh.field (d:=d+1) Tryz.underlying23 h 1 rfl (by kernel_rfl)
 have f2:Sh Tryz.prog (d+1) 3 ((cs.drop 2).take 1):=Sh.field (d:=d+1) Tryz.underlying23 h 2 rfl (by kernel_rfl)
 match cs,l with
 | [c,f,g],_=>
  obtain⟨v0,j,p⟩:=Sh.int (d:=d) Tryz.underlying3 (show Sh Tryz.prog (d+1) 3 [c]from f0)
  obtain rfl:c=_:=(List.cons.inj j).1
  obtain⟨v1,k,q⟩:=Sh.int (d:=d) Tryz.underlying3 (show Sh Tryz.prog (d+1) 3 [f]from f1)
  obtain rfl:f=_:=(List.cons.inj k).1
  obtain⟨v2,e2,r⟩:=Sh.int (d:=d) Tryz.underlying3 (show Sh Tryz.prog (d+1) 3 [g]from f2)
  obtain rfl:g=_:=(List.cons.inj e2).1
  exact⟨⟨v0,v1,v2⟩,rfl,p,q,r⟩
def rR(x:ak):Prop:=(iY x.bo)∧(iY x.ba)
theorem sh_25{d:Nat}{cs:List PD}(h:Sh Tryz.prog (d+3) 25 cs):∃a:ak,cs=a.pd.cells∧rR a:=by
 have r:cs.length=6:=(Sh.Aa (d:=d+2) Tryz.underlying25 h).trans (by kernel_rfl)
 have f0:Sh Tryz.prog (d+2) 23 ((cs.drop 0).take 3):=Sh.field (d:=d+2) Tryz.underlying25 h 0 rfl (by kernel_rfl)
 have f1:Sh Tryz.prog (d+2) 23 ((cs.drop 3).take 3):=Sh.field (d:=d+2) Tryz.underlying25 h 1 rfl (by kernel_rfl)
 match cs,r with
 | [g,j,k,l,p,q],_=>
  obtain⟨v0,c,t⟩:=sh_23 (d:=d) (show Sh Tryz.prog (d+2) 23 [g,j,k]from f0)
  simp only [aa.pd,PD.cells,List.cons.injEq,and_true]at c
  obtain⟨rfl,rfl,rfl⟩:=c
  obtain⟨v1,f,u⟩:=sh_23 (d:=d) (show Sh Tryz.prog (d+2) 23 [l,p,q]from f1)
  simp only [aa.pd,PD.cells,List.cons.injEq,and_true]at f
  obtain⟨rfl,rfl,rfl⟩:=f
  exact⟨⟨v0,v1⟩,rfl,t,u⟩
def nZ(x:bc):Prop:=((Lit.int .i64 x.b9).wf=true)∧(x.bo.length<=maxLen∧∀y∈x.bo,(Lit.int .i64 y).wf=true)∧(x.ba.length<=maxLen∧∀y∈x.ba,(Lit.int .i64 y).wf=true)
theorem sh_28{d:Nat}{cs:List PD}(h:Sh Tryz.prog (d+3) 28 cs):∃a:bc,cs=a.pd.cells∧nZ a:=by
 have p:cs.length=3:=(Sh.Aa (d:=d+2) Tryz.underlying28 h).trans (by kernel_rfl)
 have f0:Sh Tryz.prog (d+2) 3 ((cs.drop 0).take 1):=Sh.field (d:=d+2) Tryz.underlying28 h 0 rfl (by kernel_rfl)
 have f1:Sh Tryz.prog (d+2) 26 ((cs.drop 1).take 1):=Sh.field (d:=d+2) Tryz.underlying28 h 1 rfl (by kernel_rfl)
 have f2:Sh Tryz.prog (d+2) 26 ((cs.drop 2).take 1):=Sh.field (d:=d+2) Tryz.underlying28 h 2 rfl (by kernel_rfl)
 match cs,p with
 | [c,f,j],_=>
  obtain⟨v0,k,q⟩:=Sh.int (d:=d+1) Tryz.underlying3 (show Sh Tryz.prog (d+1+1) 3 [c]from f0)
  obtain rfl:c=_:=(List.cons.inj k).1
  obtain⟨v1,l,r⟩:=Sh.lst1 (d:=d+1) (g:=(PD.int .i64)) (Q:=λy=>(Lit.int .i64 y).wf=true) Tryz.underlying26 (by kernel_rfl) (show Sh Tryz.prog (d+2) 26 [f]from f1) (λ_ h=>Sh.int Tryz.underlying3 h)
  obtain rfl:f=_:=(List.cons.inj l).1
  obtain⟨v2,e2,t⟩:=Sh.lst1 (d:=d+1) (g:=(PD.int .i64)) (Q:=λy=>(Lit.int .i64 y).wf=true) Tryz.underlying26 (by kernel_rfl) (show Sh Tryz.prog (d+2) 26 [j]from f2) (λ_ h=>Sh.int Tryz.underlying3 h)
  obtain rfl:j=_:=(List.cons.inj e2).1
  exact⟨⟨v0,v1,v2⟩,rfl,q,r,t⟩
def na(x:aw):Prop:=(rR x.bt)∧(nZ x.bP)∧((Lit.int .i64 x.eV).wf=true)∧((Lit.int .i64 x.bD).wf=true)∧((Lit.int .i64 x.df).wf=true)∧((Lit.int .i64 x.dH).wf=true)∧((Lit.int .i64 x.de).wf=true)
theorem sh_30{d:Nat}{cs:List PD}(h:Sh Tryz.prog (d+4) 30 cs):∃a:aw,cs=a.pd.cells∧na a:=by
 have H:cs.length=14:=(Sh.Aa (d:=d+3) Tryz.underlying30 h).trans (by kernel_rfl)
 have f0:Sh Tryz.prog (d+3) 25 ((cs.drop 0).take 6):=Sh.field (d:=d+3) Tryz.underlying30 h 0 rfl (by kernel_rfl)
 have f1:Sh Tryz.prog (d+3) 28 ((cs.drop 6).take 3):=Sh.field (d:=d+3) Tryz.underlying30 h 1 rfl (by kernel_rfl)
 have f2:Sh Tryz.prog (d+3) 3 ((cs.drop 9).take 1):=Sh.field (d:=d+3) Tryz.underlying30 h 2 rfl (by kernel_rfl)
 have f3:Sh Tryz.prog (d+3) 3 ((cs.drop 10).take 1):=Sh.field (d:=d+3) Tryz.underlying30 h 3 rfl (by kernel_rfl)
 have f4:Sh Tryz.prog (d+3) 3 ((cs.drop 11).take 1):=Sh.field (d:=d+3) Tryz.underlying30 h 4 rfl (by kernel_rfl)
 have f5:Sh Tryz.prog (d+3) 3 ((cs.drop 12).take 1):=Sh.field (d:=d+3) Tryz.underlying30 h 5 rfl (by kernel_rfl)
 have f6:Sh Tryz.prog (d+3) 3 ((cs.drop 13).take 1):=Sh.field (d:=d+3) Tryz.underlying30 h 6 rfl (by kernel_rfl)
 match cs,H with
 | [q,r,t,u,x,y,z,B,C,k,c,f,g,j],_=>
  obtain⟨v0,l,I⟩:=sh_25 (d:=d) (show Sh Tryz.prog (d+3) 25 [q,r,t,u,x,y]from f0)
  simp only [ak.pd,PD.cells,List.cons.injEq,and_true]at l
  obtain⟨rfl,rfl,rfl,rfl,rfl,rfl⟩:=l
  obtain⟨v1,p,J⟩:=sh_28 (d:=d) (show Sh Tryz.prog (d+3) 28 [z,B,C]from f1)
  simp only [bc.pd,PD.cells,List.cons.injEq,and_true]at p
  obtain⟨rfl,rfl,rfl⟩:=p
  obtain⟨v2,e2,K⟩:=Sh.int (d:=d+2) Tryz.underlying3 (show Sh Tryz.prog (d+2+1) 3 [k]from f2)
  obtain rfl:k=_:=(List.cons.inj e2).1
  obtain⟨v3,D,L⟩:=Sh.int (d:=d+2) Tryz.underlying3 (show Sh Tryz.prog (d+2+1) 3 [c]from f3)
  obtain rfl:c=_:=(List.cons.inj D).1
  obtain⟨v4,E,N⟩:=Sh.int (d:=d+2) Tryz.underlying3 (show Sh Tryz.prog (d+2+1) 3 [f]from f4)
  obtain rfl:f=_:=(List.cons.inj E).1
  obtain⟨v5,F,O⟩:=Sh.int (d:=d+2) Tryz.underlying3 (show Sh Tryz.prog (d+2+1) 3 [g]from f5)
  obtain rfl:g=_:=(List.cons.inj F).1
  obtain⟨v6,G,Q⟩:=Sh.int (d:=d+2) Tryz.underlying3 (show Sh Tryz.prog (d+2+1) 3 [j]from f6)
  obtain rfl:j=_:=(List.cons.inj G).1
  exact⟨⟨v0,v1,v2,v3,v4,v5,v6⟩,rfl,I,J,K,L,N,O,Q⟩
def qH(x:bK):Prop:=(nZ x.bN)∧((Lit.int .i64 x.bR).wf=true)∧((Lit.int .i64 x.bO).wf=true)
theorem sh_32{d:Nat}{cs:List PD}(h:Sh Tryz.prog (d+4) 32 cs):∃a:bK,cs=a.pd.cells∧qH a:=by
 have q:cs.length=5:=(Sh.Aa (d:=d+3) Tryz.underlying32 h).trans (by kernel_rfl)
 have f0:Sh Tryz.prog (d+3) 28 ((cs.drop 0).take 3):=Sh.field (d:=d+3) Tryz.underlying32 h 0 rfl (by kernel_rfl)
 have f1:Sh Tryz.prog (d+3) 3 ((cs.drop 3).take 1):=Sh.field (d:=d+3) Tryz.underlying32 h 1 rfl (by kernel_rfl)
 have f2:Sh Tryz.prog (d+3) 3 ((cs.drop 4).take 1):=Sh.field (d:=d+3) Tryz.underlying32 h 2 rfl (by kernel_rfl)
 match cs,q with
 | [j,k,l,c,f],_=>
  obtain⟨v0,g,r⟩:=sh_28 (d:=d) (show Sh Tryz.prog (d+3) 28 [j,k,l]from f0)
  simp only [bc.pd,PD.cells,List.cons.injEq,and_true]at g
  obtain⟨rfl,rfl,rfl⟩:=g
  obtain⟨v1,p,t⟩:=Sh.int (d:=d+2) Tryz.underlying3 (show Sh Tryz.prog (d+2+1) 3 [c]from f1)
  obtain rfl:c=_:=(List.cons.inj p).1
  obtain⟨v2,e2,u⟩:=Sh.int (d:=d+2) Tryz.underlying3 (show Sh Tryz.prog (d+2+1) 3 [f]from f2)
  obtain rfl:f=_:=(List.cons.inj e2).1
  exact⟨⟨v0,v1,v2⟩,rfl,r,t,u⟩
def sa(x:ai):Prop:=(na x.ae)∧(qH x.bX)∧((Lit.int .i64 x.bD).wf=true)
theorem sh_34{d:Nat}{cs:List PD}(h:Sh Tryz.prog (d+5) 34 cs):∃a:ai,cs=a.pd.cells∧sa a:=by
 have J:cs.length=20:=(Sh.Aa (d:=d+4) Tryz.underlying34 h).trans (by kernel_rfl)
 have f0:Sh Tryz.prog (d+4) 30 ((cs.drop 0).take 14):=Sh.field (d:=d+4) Tryz.underlying34 h 0 rfl (by kernel_rfl)
 have f1:Sh Tryz.prog (d+4) 32 ((cs.drop 14).take 5):=Sh.field (d:=d+4) Tryz.underlying34 h 1 rfl (by kernel_rfl)
 have f2:Sh Tryz.prog (d+4) 3 ((cs.drop 19).take 1):=Sh.field (d:=d+4) Tryz.underlying34 h 2 rfl (by kernel_rfl)
 match cs,J with
 | [y,z,B,C,D,E,F,G,H,I,f,g,j,k,l,p,q,r,t,c],_=>
  obtain⟨v0,u,K⟩:=sh_30 (d:=d) (show Sh Tryz.prog (d+4) 30 [y,z,B,C,D,E,F,G,H,I,f,g,j,k]from f0)
  simp only [aw.pd,PD.cells,List.cons.injEq,and_true]at u
  obtain⟨rfl,rfl,rfl,rfl,rfl,rfl,rfl,rfl,rfl,rfl,rfl,rfl,rfl,rfl⟩:=u
  obtain⟨v1,x,L⟩:=sh_32 (d:=d) (show Sh Tryz.prog (d+4) 32 [l,p,q,r,t]from f1)
  simp only [bK.pd,PD.cells,List.cons.injEq,and_true]at x
  obtain⟨rfl,rfl,rfl,rfl,rfl⟩:=x
  obtain⟨v2,e2,N⟩:=Sh.int (d:=d+3) Tryz.underlying3 (show Sh Tryz.prog (d+3+1) 3 [c]from f2)
  obtain rfl:c=_:=(List.cons.inj e2).1
  exact⟨⟨v0,v1,v2⟩,rfl,K,L,N⟩
def mi(x:bn):Prop:=(x.bI.length<=maxLen)∧(x.bB.length<=maxLen)∧(x.bg.length<=maxLen)∧(x.bL.length<=maxLen)
theorem sh_64{d:Nat}{cs:List PD}(h:Sh Tryz.prog (d+2) 64 cs):∃a:bn,cs=a.pd.cells∧mi a:=by
 have q:cs.length=4:=(Sh.Aa (d:=d+1) Tryz.underlying64 h).trans (by kernel_rfl)
 have f0:Sh Tryz.prog (d+1) 9 ((cs.drop 0).take 1):=Sh.field (d:=d+1) Tryz.underlying64 h 0 rfl (by kernel_rfl)
 have f1:Sh Tryz.prog (d+1) 9 ((cs.drop 1).take 1):=Sh.field (d:=d+1) Tryz.underlying64 h 1 rfl (by kernel_rfl)
 have f2:Sh Tryz.prog (d+1) 9 ((cs.drop 2).take 1):=Sh.field (d:=d+1) Tryz.underlying64 h 2 rfl (by kernel_rfl)
 have f3:Sh Tryz.prog (d+1) 9 ((cs.drop 3).take 1):=Sh.field (d:=d+1) Tryz.underlying64 h 3 rfl (by kernel_rfl)
 match cs,q with
 | [c,f,g,j],_=>
  obtain⟨v0,k,r⟩:=Sh.str (d:=d) Tryz.underlying9 (show Sh Tryz.prog (d+1) 9 [c]from f0)
  obtain rfl:c=_:=(List.cons.inj k).1
  obtain⟨v1,l,t⟩:=Sh.str (d:=d) Tryz.underlying9 (show Sh Tryz.prog (d+1) 9 [f]from f1)
  obtain rfl:f=_:=(List.cons.inj l).1
  obtain⟨v2,e2,u⟩:=Sh.str (d:=d) Tryz.underlying9 (show Sh Tryz.prog (d+1) 9 [g]from f2)
  obtain rfl:g=_:=(List.cons.inj e2).1
  obtain⟨v3,p,x⟩:=Sh.str (d:=d) Tryz.underlying9 (show Sh Tryz.prog (d+1) 9 [j]from f3)
  obtain rfl:j=_:=(List.cons.inj p).1
  exact⟨⟨v0,v1,v2,v3⟩,rfl,r,t,u,x⟩
def qM(x:cd):Prop:=((Lit.int .i64 x.bR).wf=true)∧((Lit.int .i64 x.bO).wf=true)
theorem sh_70{d:Nat}{cs:List PD}(h:Sh Tryz.prog (d+2) 70 cs):∃a:cd,cs=a.pd.cells∧qM a:=by
 have k:cs.length=2:=(Sh.Aa (d:=d+1) Tryz.underlying70 h).trans (by kernel_rfl)
 have f0:Sh Tryz.prog (d+1) 3 ((cs.drop 0).take 1):=Sh.field (d:=d+1) Tryz.underlying70 h 0 rfl (by kernel_rfl)
 have f1:Sh Tryz.prog (d+1) 3 ((cs.drop 1).take 1):=Sh.field (d:=d+1) Tryz.underlying70 h 1 rfl (by kernel_rfl)
 match cs,k with
 | [c,f],_=>
  obtain⟨v0,g,l⟩:=Sh.int (d:=d) Tryz.underlying3 (show Sh Tryz.prog (d+1) 3 [c]from f0)
  obtain rfl:c=_:=(List.cons.inj g).1
  obtain⟨v1,j,p⟩:=Sh.int (d:=d) Tryz.underlying3 (show Sh Tryz.prog (d+1) 3 [f]from f1)
  obtain rfl:f=_:=(List.cons.inj j).1
  exact⟨⟨v0,v1⟩,rfl,l,p⟩
def rZ(x:bH):Prop:=((Lit.int .i64 x.a0).wf=true)∧((Lit.int .i64 x.a1).wf=true)∧((Lit.int .i64 x.a2).wf=true)
theorem sh_127{d:Nat}{cs:List PD}(h:Sh Tryz.prog (d+2) 127 cs):∃a:bH,cs=a.pd.cells∧rZ a:=by
 have l:cs.length=3:=(Sh.alen (d:=d+1) Tryz.underlying127 h).trans (by kernel_rfl)
 have f0:Sh Tryz.prog (d+1) 3 ((cs.drop 0).take 1):=Sh.elem (d:=d+1) Tryz.underlying127 h 0 za rfl (by kernel_rfl)
 have f1:Sh Tryz.prog (d+1) 3 ((cs.drop 1).take 1):=Sh.elem (d:=d+1) Tryz.underlying127 h 1 za rfl (by kernel_rfl)
 have f2:Sh Tryz.prog (d+1) 3 ((cs.drop 2).take 1):=Sh.elem (d:=d+1) Tryz.underlying127 h 2 za rfl (by kernel_rfl)
 match cs,l with
 | [c,f,g],_=>
  obtain⟨v0,j,p⟩:=Sh.int (d:=d) Tryz.underlying3 (show Sh Tryz.prog (d+1) 3 [c]from f0)
  obtain rfl:c=_:=(List.cons.inj j).1
  obtain⟨v1,k,q⟩:=Sh.int (d:=d) Tryz.underlying3 (show Sh Tryz.prog (d+1) 3 [f]from f1)
  obtain rfl:f=_:=(List.cons.inj k).1
  obtain⟨v2,e2,r⟩:=Sh.int (d:=d) Tryz.underlying3 (show Sh Tryz.prog (d+1) 3 [g]from f2)
  obtain rfl:g=_:=(List.cons.inj e2).1
  exact⟨⟨v0,v1,v2⟩,rfl,p,q,r⟩
def nY(x:bw):Prop:=((Lit.int .i64 x.cU).wf=true)∧(rZ x.bR)∧(rZ x.bO)∧(x.cx.length<=maxLen∧∀y∈x.cx,(Lit.int .i64 y).wf=true)∧((Lit.int .i64 x.b8).wf=true)∧((Lit.int .i64 x.cM).wf=true)
theorem sh_129{d:Nat}{cs:List PD}(h:Sh Tryz.prog (d+3) 129 cs):∃a:bw,cs=a.pd.cells∧nY a:=by
 have E:cs.length=10:=(Sh.Aa (d:=d+2) Tryz.underlying129 h).trans (by kernel_rfl)
 have f0:Sh Tryz.prog (d+2) 3 ((cs.drop 0).take 1):=Sh.field (d:=d+2) Tryz.underlying129 h 0 rfl (by kernel_rfl)
 have f1:Sh Tryz.prog (d+2) 127 ((cs.drop 1).take 3):=Sh.field (d:=d+2) Tryz.underlying129 h 1 rfl (by kernel_rfl)
 have f2:Sh Tryz.prog (d+2) 127 ((cs.drop 4).take 3):=Sh.field (d:=d+2) Tryz.underlying129 h 2 rfl (by kernel_rfl)
 have f3:Sh Tryz.prog (d+2) 26 ((cs.drop 7).take 1):=Sh.field (d:=d+2) Tryz.underlying129 h 3 rfl (by kernel_rfl)
 have f4:Sh Tryz.prog (d+2) 3 ((cs.drop 8).take 1):=Sh.field (d:=d+2) Tryz.underlying129 h 4 rfl (by kernel_rfl)
 have f5:Sh Tryz.prog (d+2) 3 ((cs.drop 9).take 1):=Sh.field (d:=d+2) Tryz.underlying129 h 5 rfl (by kernel_rfl)
 match cs,E with
 | [c,p,q,r,t,u,x,f,j,k],_=>
  obtain⟨v0,z,F⟩:=Sh.int (d:=d+1) Tryz.underlying3 (show Sh Tryz.prog (d+1+1) 3 [c]from f0)
  obtain rfl:c=_:=(List.cons.inj z).1
  obtain⟨v1,l,G⟩:=sh_127 (d:=d) (show Sh Tryz.prog (d+2) 127 [p,q,r]from f1)
  simp only [bH.pd,PD.cells,List.cons.injEq,and_true]at l
  obtain⟨rfl,rfl,rfl⟩:=l
  obtain⟨v2,e2,H⟩:=sh_127 (d:=d) (show Sh Tryz.prog (d+2) 127 [t,u,x]from f2)
  simp only [bH.pd,PD.cells,List.cons.injEq,and_true]at e2
  obtain⟨rfl,rfl,rfl⟩:=e2
  obtain⟨v3,B,I⟩:=Sh.lst1 (d:=d+1) (g:=(PD.int .i64)) (Q:=λy=>(Lit.int .i64 y).wf=true) Tryz.underlying26 (by kernel_rfl) (show Sh Tryz.prog (d+2) 26 [f]from f3) (λ_ h=>Sh.int Tryz.underlying3 h)
  obtain rfl:f=_:=(List.cons.inj B).1
  obtain⟨v4,C,J⟩:=Sh.int (d:=d+1) Tryz.underlying3 (show Sh Tryz.prog (d+1+1) 3 [j]from f4)
  obtain rfl:j=_:=(List.cons.inj C).1
  obtain⟨v5,D,K⟩:=Sh.int (d:=d+1) Tryz.underlying3 (show Sh Tryz.prog (d+1+1) 3 [k]from f5)
  obtain rfl:k=_:=(List.cons.inj D).1
  exact⟨⟨v0,v1,v2,v3,v4,v5⟩,rfl,F,G,H,I,J,K⟩
def oB(x:bv):Prop:=(x.bJ.length<=maxLen∧∀y∈x.bJ,nY y)
theorem sh_73{d:Nat}{cs:List PD}(h:Sh Tryz.prog (d+5) 73 cs):∃a:bv,cs=a.pd.cells∧oB a:=by
 have g:cs.length=1:=(Sh.Aa (d:=d+4) Tryz.underlying73 h).trans (by kernel_rfl)
 have f0:Sh Tryz.prog (d+4) 71 ((cs.drop 0).take 1):=Sh.field (d:=d+4) Tryz.underlying73 h 0 rfl (by kernel_rfl)
 match cs,g with
 | [c],_=>
  obtain⟨v0,f,j⟩:=Sh.lst (d:=d+3) (pd:=bw.pd) (Q:=nY) Tryz.underlying71 (by kernel_rfl) (show Sh Tryz.prog (d+4) 71 [c]from f0) (λ_=>rfl) (λ_ h=>sh_129 h)
  obtain rfl:c=_:=(List.cons.inj f).1
  exact⟨⟨v0⟩,rfl,j⟩
def nX(x:bi):Prop:=((Lit.int .i64 x.ck).wf=true)∧((Lit.int .i64 x.fTo).wf=true)∧(qM x.nP)∧(iY x.bW)∧(oB x.b7)
theorem sh_75{d:Nat}{cs:List PD}(h:Sh Tryz.prog (d+6) 75 cs):∃a:bi,cs=a.pd.cells∧nX a:=by
 have y:cs.length=8:=(Sh.Aa (d:=d+5) Tryz.underlying75 h).trans (by kernel_rfl)
 have f0:Sh Tryz.prog (d+5) 3 ((cs.drop 0).take 1):=Sh.field (d:=d+5) Tryz.underlying75 h 0 rfl (by kernel_rfl)
 have f1:Sh Tryz.prog (d+5) 3 ((cs.drop 1).take 1):=Sh.field (d:=d+5) Tryz.underlying75 h 1 rfl (by kernel_rfl)
 have f2:Sh Tryz.prog (d+5) 70 ((cs.drop 2).take 2):=Sh.field (d:=d+5) Tryz.underlying75 h 2 rfl (by kernel_rfl)
 have f3:Sh Tryz.prog (d+5) 23 ((cs.drop 4).take 3):=Sh.field (d:=d+5) Tryz.underlying75 h 3 rfl (by kernel_rfl)
 have f4:Sh Tryz.prog (d+5) 73 ((cs.drop 7).take 1):=Sh.field (d:=d+5) Tryz.underlying75 h 4 rfl (by kernel_rfl)
 match cs,y with
 | [c,f,k,l,p,q,r,g],_=>
  obtain⟨v0,t,z⟩:=Sh.int (d:=d+4) Tryz.underlying3 (show Sh Tryz.prog (d+4+1) 3 [c]from f0)
  obtain rfl:c=_:=(List.cons.inj t).1
  obtain⟨v1,u,B⟩:=Sh.int (d:=d+4) Tryz.underlying3 (show Sh Tryz.prog (d+4+1) 3 [f]from f1)
  obtain rfl:f=_:=(List.cons.inj u).1
  obtain⟨v2,e2,C⟩:=sh_70 (d:=d+3) (show Sh Tryz.prog (d+3+2) 70 [k,l]from f2)
  simp only [cd.pd,PD.cells,List.cons.injEq,and_true]at e2
  obtain⟨rfl,rfl⟩:=e2
  obtain⟨v3,j,D⟩:=sh_23 (d:=d+3) (show Sh Tryz.prog (d+3+2) 23 [p,q,r]from f3)
  simp only [aa.pd,PD.cells,List.cons.injEq,and_true]at j
  obtain⟨rfl,rfl,rfl⟩:=j
  obtain⟨v4,x,E⟩:=sh_73 (d:=d) (show Sh Tryz.prog (d+5) 73 [g]from f4)
  obtain rfl:g=_:=(List.cons.inj x).1
  exact⟨⟨v0,v1,v2,v3,v4⟩,rfl,z,B,C,D,E⟩
def mE(x:av):Prop:=(mi x.az)∧(x.bF.length<=maxLen∧∀y∈x.bF,nX y)
theorem sh_67{d:Nat}{cs:List PD}(h:Sh Tryz.prog (d+8) 67 cs):∃a:av,cs=a.pd.cells∧mE a:=by
 have q:cs.length=5:=(Sh.Aa (d:=d+7) Tryz.underlying67 h).trans (by kernel_rfl)
 have f0:Sh Tryz.prog (d+7) 64 ((cs.drop 0).take 4):=Sh.field (d:=d+7) Tryz.underlying67 h 0 rfl (by kernel_rfl)
 have f1:Sh Tryz.prog (d+7) 65 ((cs.drop 4).take 1):=Sh.field (d:=d+7) Tryz.underlying67 h 1 rfl (by kernel_rfl)
 match cs,q with
 | [g,j,k,l,c],_=>
  obtain⟨v0,f,r⟩:=sh_64 (d:=d+5) (show Sh Tryz.prog (d+5+2) 64 [g,j,k,l]from f0)
  simp only [bn.pd,PD.cells,List.cons.injEq,and_true]at f
  obtain⟨rfl,rfl,rfl,rfl⟩:=f
  obtain⟨v1,p,t⟩:=Sh.lst (d:=d+6) (pd:=bi.pd) (Q:=nX) Tryz.underlying65 (by kernel_rfl) (show Sh Tryz.prog (d+7) 65 [c]from f1) (λ_=>rfl) (λ_ h=>sh_75 h)
  obtain rfl:c=_:=(List.cons.inj p).1
  exact⟨⟨v0,v1⟩,rfl,r,t⟩
def hJ(x:ag):Prop:=(x.bp.length<=maxLen∧∀y∈x.bp,mE y)
theorem sh_37{d:Nat}{cs:List PD}(h:Sh Tryz.prog (d+10) 37 cs):∃a:ag,cs=a.pd.cells∧hJ a:=by
 have g:cs.length=1:=(Sh.Aa (d:=d+9) Tryz.underlying37 h).trans (by kernel_rfl)
 have f0:Sh Tryz.prog (d+9) 35 ((cs.drop 0).take 1):=Sh.field (d:=d+9) Tryz.underlying37 h 0 rfl (by kernel_rfl)
 match cs,g with
 | [c],_=>
  obtain⟨v0,f,j⟩:=Sh.lst (d:=d+8) (pd:=av.pd) (Q:=mE) Tryz.underlying35 (by kernel_rfl) (show Sh Tryz.prog (d+9) 35 [c]from f0) (λ_=>rfl) (λ_ h=>sh_67 h)
  obtain rfl:c=_:=(List.cons.inj f).1
  exact⟨⟨v0⟩,rfl,j⟩
def kc(x:ac):Prop:=(mi x.az)∧((Lit.int .i64 x.bS).wf=true)∧((Lit.int .i64 x.bA).wf=true)∧((Lit.int .i64 x.bY).wf=true)∧((Lit.int .i64 x.bG).wf=true)∧((Lit.int .i64 x.bM).wf=true)
theorem sh_78{d:Nat}{cs:List PD}(h:Sh Tryz.prog (d+3) 78 cs):∃a:ac,cs=a.pd.cells∧kc a:=by
 have B:cs.length=9:=(Sh.Aa (d:=d+2) Tryz.underlying78 h).trans (by kernel_rfl)
 have f0:Sh Tryz.prog (d+2) 64 ((cs.drop 0).take 4):=Sh.field (d:=d+2) Tryz.underlying78 h 0 rfl (by kernel_rfl)
 have f1:Sh Tryz.prog (d+2) 3 ((cs.drop 4).take 1):=Sh.field (d:=d+2) Tryz.underlying78 h 1 rfl (by kernel_rfl)
 have f2:Sh Tryz.prog (d+2) 3 ((cs.drop 5).take 1):=Sh.field (d:=d+2) Tryz.underlying78 h 2 rfl (by kernel_rfl)
 have f3:Sh Tryz.prog (d+2) 3 ((cs.drop 6).take 1):=Sh.field (d:=d+2) Tryz.underlying78 h 3 rfl (by kernel_rfl)
 have f4:Sh Tryz.prog (d+2) 3 ((cs.drop 7).take 1):=Sh.field (d:=d+2) Tryz.underlying78 h 4 rfl (by kernel_rfl)
 have f5:Sh Tryz.prog (d+2) 3 ((cs.drop 8).take 1):=Sh.field (d:=d+2) Tryz.underlying78 h 5 rfl (by kernel_rfl)
 match cs,B with
 | [p,q,r,t,c,f,g,j,k],_=>
  obtain⟨v0,l,C⟩:=sh_64 (d:=d) (show Sh Tryz.prog (d+2) 64 [p,q,r,t]from f0)
  simp only [bn.pd,PD.cells,List.cons.injEq,and_true]at l
  obtain⟨rfl,rfl,rfl,rfl⟩:=l
  obtain⟨v1,u,D⟩:=Sh.int (d:=d+1) Tryz.underlying3 (show Sh Tryz.prog (d+1+1) 3 [c]from f1)
  obtain rfl:c=_:=(List.cons.inj u).1
  obtain⟨v2,e2,E⟩:=Sh.int (d:=d+1) Tryz.underlying3 (show Sh Tryz.prog (d+1+1) 3 [f]from f2)
  obtain rfl:f=_:=(List.cons.inj e2).1
  obtain⟨v3,x,F⟩:=Sh.int (d:=d+1) Tryz.underlying3 (show Sh Tryz.prog (d+1+1) 3 [g]from f3)
  obtain rfl:g=_:=(List.cons.inj x).1
  obtain⟨v4,y,G⟩:=Sh.int (d:=d+1) Tryz.underlying3 (show Sh Tryz.prog (d+1+1) 3 [j]from f4)
  obtain rfl:j=_:=(List.cons.inj y).1
  obtain⟨v5,z,H⟩:=Sh.int (d:=d+1) Tryz.underlying3 (show Sh Tryz.prog (d+1+1) 3 [k]from f5)
  obtain rfl:k=_:=(List.cons.inj z).1
  exact⟨⟨v0,v1,v2,v3,v4,v5⟩,rfl,C,D,E,F,G,H⟩
theorem args_of{j:List PD}(h:Cz Tryz.prog 10 [34,37,38,26] j):∃(s:ai)(v:ag)(a:List ac)(l:List Int),j=[s.pd,v.pd,.lst (a.map ac.pd),.lst (l.map (.int .i64))]∧hJ v∧(∀p∈a,kc p):=by
 have z:∃c f g k,j=[c,f,g,k]∧ShV Tryz.prog 10 34 c∧ShV Tryz.prog 10 37 f∧ShV Tryz.prog 10 38 g∧ShV Tryz.prog 10 26 k:=by
  rcases j with _|⟨c,_|⟨f,_|⟨g,_|⟨E,_|⟨k,j⟩⟩⟩⟩⟩
  ·exact h.elim
  ·exact h.2.elim
  ·exact h.2.2.elim
  ·exact h.2.2.2.elim
  ·exact⟨c,f,g,E,rfl,h.1,h.2.1,h.2.2.1,h.2.2.2.1⟩
  ·exact h.2.2.2.2.elim
 obtain⟨c,f,g,k,rfl,h1,u,x,B⟩:=z
 obtain⟨l,rfl,_⟩:=ShV.ints Tryz.underlying26 Tryz.underlying3 B
 obtain⟨s,y, -⟩:=sh_34 (d:=5) h1.2.2
 obtain⟨v,e2,F⟩:=sh_37 (d:=0) u.2.2
 obtain⟨a,t, -,G⟩:=Sh.lst (d:=9) (pd:=ac.pd) (Q:=kc) Tryz.underlying38 (by kernel_rfl) x.2.2 (λ_=>rfl) (λ_ h=>sh_78 (d:=6) h)
 rw [wV (x.2.1 (by kernel_rfl))]at t
 cases t
 obtain⟨q,rfl⟩:=h1.1 (by kernel_rfl)
 obtain⟨r,rfl⟩:=u.1 (by kernel_rfl)
 have C:PD.agg q=s.pd:=by
  have:q=s.pd.cells:=y
  rw [this];rfl
 have D:PD.agg r=v.pd:=by
  have:r=v.pd.cells:=e2
  rw [this];rfl
 rw [C,D]
 exact⟨s,v,a,l,rfl,F,G⟩
theorem slen_of{p:ac}(h:kc p):su p:=h.1
theorem argI_of{v:ag}(h:hJ v):ArgI v:=
 ⟨h.1,λc hc=>(h.2 c hc).1,λc hc e he=>((h.2 c hc).2.2 e he).2.2.2.2.1⟩
theorem holds_of(s:ai){v:ag}{a:List ac}(l:List Int)(h1:hJ v)(c:∀p∈a,kc p):lj s v a l=some true:=
 EventFinds_law s v a l (argI_of h1) (λp hp=>slen_of (c p hp))
end Go.Dw.Ef
