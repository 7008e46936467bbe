
import Derived.Test.YtomapcboiinfdaaGreatEsLaw
import Derived.Test.YtomapcboiinfdaaGreatDwSh
import Derived.Test.YtomapcboiinfdaaGreatProg

set_option maxRecDepth 100000
namespace Go.Dw.Es
open Go.Proofs Go.Dw
def eo(x:ac):Prop:=((Lit.int .i64 x.fX).wf=true)∧((Lit.int .i64 x.fY).wf=true)∧((Lit.int .i64 x.fZ).wf=true)
theorem sh_23{d:Nat}{cs:List PD}(h:Sh Tryz.prog (d+2) 23 cs):∃a:ac,cs=a.pd.cells∧eo a:=by
 have i:cs.length=3:=(Sh.tW (d:=d+1) Tryz.underlying23 h).trans (by kernel_rfl)
 have f0:Sh Tryz.prog (d+1) 3 ((cs.drop 0).take 1):=Sh.field (d:=d+1) Tryz.underlying23 h 0 rfl (by kernel_rfl)
 have f1:Sh Tryz.prog (d+1) 3 ((cs.drop 1).take 1):=Sh.field (d:=d+1) Tryz.underlying23 h 1 rfl (by kernel_rfl)
 have f2:Sh Tryz.prog (d+1) 3 ((cs.drop 2).take 1):=Sh.field (d:=d+1) Tryz.underlying23 h 2 rfl (by kernel_rfl)
 match cs,i with
 | [b,c,e],_=>
  obtain⟨v0,f,j⟩:=Sh.int (d:=d) Tryz.underlying3 (show Sh Tryz.prog (d+1) 3 [b]from f0)
  obtain rfl:b=_:=(List.cons.inj f).1
  obtain⟨v1,g,k⟩:=Sh.int (d:=d) Tryz.underlying3 (show Sh Tryz.prog (d+1) 3 [c]from f1)
  obtain rfl:c=_:=(List.cons.inj g).1
  obtain⟨v2,e2,l⟩:=Sh.int (d:=d) Tryz.underlying3 (show Sh Tryz.prog (d+1) 3 [e]from f2)
  obtain rfl:e=_:=(List.cons.inj e2).1
  exact⟨⟨v0,v1,v2⟩,rfl,j,k,l⟩
def lJ(x:aq):Prop:=(eo x.aG)∧(eo x.aB)
theorem sh_25{d:Nat}{cs:List PD}(h:Sh Tryz.prog (d+3) 25 cs):∃a:aq,cs=a.pd.cells∧lJ a:=by
 have l:cs.length=6:=(Sh.tW (d:=d+2) Tryz.underlying25 h).trans (by kernel_rfl)
 have f0:Sh Tryz.prog (d+2) 23 ((cs.drop 0).take 3):=Sh.field (d:=d+2) Tryz.underlying25 h 0 rfl (by kernel_rfl)
 have f1:Sh Tryz.prog (d+2) 23 ((cs.drop 3).take 3):=Sh.field (d:=d+2) Tryz.underlying25 h 1 rfl (by kernel_rfl)
 match cs,l with
 | [e,f,g,i,j,k],_=>
  obtain⟨v0,b,m⟩:=sh_23 (d:=d) (show Sh Tryz.prog (d+2) 23 [e,f,g]from f0)
  simp only [ac.pd,PD.cells,List.cons.injEq,and_true]at b
  obtain⟨rfl,rfl,rfl⟩:=b
  obtain⟨v1,c,n⟩:=sh_23 (d:=d) (show Sh Tryz.prog (d+2) 23 [i,j,k]from f1)
  simp only [ac.pd,PD.cells,List.cons.injEq,and_true]at c
  obtain⟨rfl,rfl,rfl⟩:=c
  exact⟨⟨v0,v1⟩,rfl,m,n⟩
def io(x:ap):Prop:=((Lit.int .i64 x.aY).wf=true)∧(x.aG.length<=maxLen∧∀y∈x.aG,(Lit.int .i64 y).wf=true)∧(x.aB.length<=maxLen∧∀y∈x.aB,(Lit.int .i64 y).wf=true)
theorem sh_28{d:Nat}{cs:List PD}(h:Sh Tryz.prog (d+3) 28 cs):∃a:ap,cs=a.pd.cells∧io a:=by
 have j:cs.length=3:=(Sh.tW (d:=d+2) Tryz.underlying28 h).trans (by kernel_rfl)
 have f0:Sh Tryz.prog (d+2) 3 ((cs.drop 0).take 1):=Sh.field (d:=d+2) Tryz.underlying28 h 0 rfl (by kernel_rfl)
 have f1:Sh Tryz.prog (d+2) 26 ((cs.drop 1).take 1):=Sh.field (d:=d+2) Tryz.underlying28 h 1 rfl (by kernel_rfl)
 have f2:Sh Tryz.prog (d+2) 26 ((cs.drop 2).take 1):=Sh.field (d:=d+2) Tryz.underlying28 h 2 rfl (by kernel_rfl)
 match cs,j with
 | [b,c,e],_=>
  obtain⟨v0,f,k⟩:=Sh.int (d:=d+1) Tryz.underlying3 (show Sh Tryz.prog (d+1+1) 3 [b]from f0)
  obtain rfl:b=_:=(List.cons.inj f).1
  obtain⟨v1,i,l⟩:=Sh.lst1 (d:=d+1) (g:=(PD.int .i64)) (Q:=fun y=>(Lit.int .i64 y).wf=true) Tryz.underlying26 (by kernel_rfl) (show Sh Tryz.prog (d+2) 26 [c]from f1) (fun _ h=>Sh.int Tryz.underlying3 h)
  obtain rfl:c=_:=(List.cons.inj i).1
  obtain⟨v2,e2,m⟩:=Sh.lst1 (d:=d+1) (g:=(PD.int .i64)) (Q:=fun y=>(Lit.int .i64 y).wf=true) Tryz.underlying26 (by kernel_rfl) (show Sh Tryz.prog (d+2) 26 [e]from f2) (fun _ h=>Sh.int Tryz.underlying3 h)
  obtain rfl:e=_:=(List.cons.inj e2).1
  exact⟨⟨v0,v1,v2⟩,rfl,k,l,m⟩
def gM(x:aJ):Prop:=(lJ x.aU)∧(io x.bj)∧((Lit.int .i64 x.gK).wf=true)∧((Lit.int .i64 x.aK).wf=true)∧((Lit.int .i64 x.dn).wf=true)∧((Lit.int .i64 x.ce).wf=true)∧((Lit.int .i64 x.b9).wf=true)
theorem sh_30{d:Nat}{cs:List PD}(h:Sh Tryz.prog (d+4) 30 cs):∃a:aJ,cs=a.pd.cells∧gM a:=by
 have y:cs.length=14:=(Sh.tW (d:=d+3) Tryz.underlying30 h).trans (by kernel_rfl)
 have f0:Sh Tryz.prog (d+3) 25 ((cs.drop 0).take 6):=Sh.field (d:=d+3) Tryz.underlying30 h 0 rfl (by kernel_rfl)
 have f1:Sh Tryz.prog (d+3) 28 ((cs.drop 6).take 3):=Sh.field (d:=d+3) Tryz.underlying30 h 1 rfl (by kernel_rfl)
 have f2:Sh Tryz.prog (d+3) 3 ((cs.drop 9).take 1):=Sh.field (d:=d+3) Tryz.underlying30 h 2 rfl (by kernel_rfl)
 have f3:Sh Tryz.prog (d+3) 3 ((cs.drop 10).take 1):=Sh.field (d:=d+3) Tryz.underlying30 h 3 rfl (by kernel_rfl)
 have f4:Sh Tryz.prog (d+3) 3 ((cs.drop 11).take 1):=Sh.field (d:=d+3) Tryz.underlying30 h 4 rfl (by kernel_rfl)
 have f5:Sh Tryz.prog (d+3) 3 ((cs.drop 12).take 1):=Sh.field (d:=d+3) Tryz.underlying30 h 5 rfl (by kernel_rfl)
 have f6:Sh Tryz.prog (d+3) 3 ((cs.drop 13).take 1):=Sh.field (d:=d+3) Tryz.underlying30 h 6 rfl (by kernel_rfl)
 match cs,y with
 | [k,l,m,n,o,p,q,r,s,g,b,c,e,f],_=>
  obtain⟨v0,i,z⟩:=sh_25 (d:=d) (show Sh Tryz.prog (d+3) 25 [k,l,m,n,o,p]from f0)
  simp only [aq.pd,PD.cells,List.cons.injEq,and_true]at i
  obtain⟨rfl,rfl,rfl,rfl,rfl,rfl⟩:=i
  obtain⟨v1,j,B⟩:=sh_28 (d:=d) (show Sh Tryz.prog (d+3) 28 [q,r,s]from f1)
  simp only [ap.pd,PD.cells,List.cons.injEq,and_true]at j
  obtain⟨rfl,rfl,rfl⟩:=j
  obtain⟨v2,e2,C⟩:=Sh.int (d:=d+2) Tryz.underlying3 (show Sh Tryz.prog (d+2+1) 3 [g]from f2)
  obtain rfl:g=_:=(List.cons.inj e2).1
  obtain⟨v3,t,D⟩:=Sh.int (d:=d+2) Tryz.underlying3 (show Sh Tryz.prog (d+2+1) 3 [b]from f3)
  obtain rfl:b=_:=(List.cons.inj t).1
  obtain⟨v4,u,E⟩:=Sh.int (d:=d+2) Tryz.underlying3 (show Sh Tryz.prog (d+2+1) 3 [c]from f4)
  obtain rfl:c=_:=(List.cons.inj u).1
  obtain⟨v5,v,F⟩:=Sh.int (d:=d+2) Tryz.underlying3 (show Sh Tryz.prog (d+2+1) 3 [e]from f5)
  obtain rfl:e=_:=(List.cons.inj v).1
  obtain⟨v6,x,G⟩:=Sh.int (d:=d+2) Tryz.underlying3 (show Sh Tryz.prog (d+2+1) 3 [f]from f6)
  obtain rfl:f=_:=(List.cons.inj x).1
  exact⟨⟨v0,v1,v2,v3,v4,v5,v6⟩,rfl,z,B,C,D,E,F,G⟩
def ku(x:aM):Prop:=(io x.aV)∧((Lit.int .i64 x.aQ).wf=true)∧((Lit.int .i64 x.aL).wf=true)
theorem sh_32{d:Nat}{cs:List PD}(h:Sh Tryz.prog (d+4) 32 cs):∃a:aM,cs=a.pd.cells∧ku a:=by
 have k:cs.length=5:=(Sh.tW (d:=d+3) Tryz.underlying32 h).trans (by kernel_rfl)
 have f0:Sh Tryz.prog (d+3) 28 ((cs.drop 0).take 3):=Sh.field (d:=d+3) Tryz.underlying32 h 0 rfl (by kernel_rfl)
 have f1:Sh Tryz.prog (d+3) 3 ((cs.drop 3).take 1):=Sh.field (d:=d+3) Tryz.underlying32 h 1 rfl (by kernel_rfl)
 have f2:Sh Tryz.prog (d+3) 3 ((cs.drop 4).take 1):=Sh.field (d:=d+3) Tryz.underlying32 h 2 rfl (by kernel_rfl)
 match cs,k with
 | [f,g,i,b,c],_=>
  obtain⟨v0,e,l⟩:=sh_28 (d:=d) (show Sh Tryz.prog (d+3) 28 [f,g,i]from f0)
  simp only [ap.pd,PD.cells,List.cons.injEq,and_true]at e
  obtain⟨rfl,rfl,rfl⟩:=e
  obtain⟨v1,j,m⟩:=Sh.int (d:=d+2) Tryz.underlying3 (show Sh Tryz.prog (d+2+1) 3 [b]from f1)
  obtain rfl:b=_:=(List.cons.inj j).1
  obtain⟨v2,e2,n⟩:=Sh.int (d:=d+2) Tryz.underlying3 (show Sh Tryz.prog (d+2+1) 3 [c]from f2)
  obtain rfl:c=_:=(List.cons.inj e2).1
  exact⟨⟨v0,v1,v2⟩,rfl,l,m,n⟩
def lU(x:ag):Prop:=(gM x.ae)∧(ku x.bi)∧((Lit.int .i64 x.aK).wf=true)
theorem sh_34{d:Nat}{cs:List PD}(h:Sh Tryz.prog (d+5) 34 cs):∃a:ag,cs=a.pd.cells∧lU a:=by
 have B:cs.length=20:=(Sh.tW (d:=d+4) Tryz.underlying34 h).trans (by kernel_rfl)
 have f0:Sh Tryz.prog (d+4) 30 ((cs.drop 0).take 14):=Sh.field (d:=d+4) Tryz.underlying34 h 0 rfl (by kernel_rfl)
 have f1:Sh Tryz.prog (d+4) 32 ((cs.drop 14).take 5):=Sh.field (d:=d+4) Tryz.underlying34 h 1 rfl (by kernel_rfl)
 have f2:Sh Tryz.prog (d+4) 3 ((cs.drop 19).take 1):=Sh.field (d:=d+4) Tryz.underlying34 h 2 rfl (by kernel_rfl)
 match cs,B with
 | [p,q,r,s,t,u,v,x,y,z,c,e,f,g,i,j,k,l,m,b],_=>
  obtain⟨v0,n,C⟩:=sh_30 (d:=d) (show Sh Tryz.prog (d+4) 30 [p,q,r,s,t,u,v,x,y,z,c,e,f,g]from f0)
  simp only [aJ.pd,PD.cells,List.cons.injEq,and_true]at n
  obtain⟨rfl,rfl,rfl,rfl,rfl,rfl,rfl,rfl,rfl,rfl,rfl,rfl,rfl,rfl⟩:=n
  obtain⟨v1,o,D⟩:=sh_32 (d:=d) (show Sh Tryz.prog (d+4) 32 [i,j,k,l,m]from f1)
  simp only [aM.pd,PD.cells,List.cons.injEq,and_true]at o
  obtain⟨rfl,rfl,rfl,rfl,rfl⟩:=o
  obtain⟨v2,e2,E⟩:=Sh.int (d:=d+3) Tryz.underlying3 (show Sh Tryz.prog (d+3+1) 3 [b]from f2)
  obtain rfl:b=_:=(List.cons.inj e2).1
  exact⟨⟨v0,v1,v2⟩,rfl,C,D,E⟩
def fV(x:ak):Prop:=(x.aZ.length<=maxLen)∧(x.aS.length<=maxLen)∧(x.aO.length<=maxLen)∧(x.bg.length<=maxLen)
theorem sh_63{d:Nat}{cs:List PD}(h:Sh Tryz.prog (d+2) 63 cs):∃a:ak,cs=a.pd.cells∧fV a:=by
 have k:cs.length=4:=(Sh.tW (d:=d+1) Tryz.underlying63 h).trans (by kernel_rfl)
 have f0:Sh Tryz.prog (d+1) 9 ((cs.drop 0).take 1):=Sh.field (d:=d+1) Tryz.underlying63 h 0 rfl (by kernel_rfl)
 have f1:Sh Tryz.prog (d+1) 9 ((cs.drop 1).take 1):=Sh.field (d:=d+1) Tryz.underlying63 h 1 rfl (by kernel_rfl)
 have f2:Sh Tryz.prog (d+1) 9 ((cs.drop 2).take 1):=Sh.field (d:=d+1) Tryz.underlying63 h 2 rfl (by kernel_rfl)
 have f3:Sh Tryz.prog (d+1) 9 ((cs.drop 3).take 1):=Sh.field (d:=d+1) Tryz.underlying63 h 3 rfl (by kernel_rfl)
 match cs,k with
 | [b,c,e,f],_=>
  obtain⟨v0,g,l⟩:=Sh.str (d:=d) Tryz.underlying9 (show Sh Tryz.prog (d+1) 9 [b]from f0)
  obtain rfl:b=_:=(List.cons.inj g).1
  obtain⟨v1,i,m⟩:=Sh.str (d:=d) Tryz.underlying9 (show Sh Tryz.prog (d+1) 9 [c]from f1)
  obtain rfl:c=_:=(List.cons.inj i).1
  obtain⟨v2,e2,n⟩:=Sh.str (d:=d) Tryz.underlying9 (show Sh Tryz.prog (d+1) 9 [e]from f2)
  obtain rfl:e=_:=(List.cons.inj e2).1
  obtain⟨v3,j,o⟩:=Sh.str (d:=d) Tryz.underlying9 (show Sh Tryz.prog (d+1) 9 [f]from f3)
  obtain rfl:f=_:=(List.cons.inj j).1
  exact⟨⟨v0,v1,v2,v3⟩,rfl,l,m,n,o⟩
def kH(x:bh):Prop:=((Lit.int .i64 x.aQ).wf=true)∧((Lit.int .i64 x.aL).wf=true)
theorem sh_69{d:Nat}{cs:List PD}(h:Sh Tryz.prog (d+2) 69 cs):∃a:bh,cs=a.pd.cells∧kH a:=by
 have g:cs.length=2:=(Sh.tW (d:=d+1) Tryz.underlying69 h).trans (by kernel_rfl)
 have f0:Sh Tryz.prog (d+1) 3 ((cs.drop 0).take 1):=Sh.field (d:=d+1) Tryz.underlying69 h 0 rfl (by kernel_rfl)
 have f1:Sh Tryz.prog (d+1) 3 ((cs.drop 1).take 1):=Sh.field (d:=d+1) Tryz.underlying69 h 1 rfl (by kernel_rfl)
 match cs,g with
 | [b,c],_=>
  obtain⟨v0,e,i⟩:=Sh.int (d:=d) Tryz.underlying3 (show Sh Tryz.prog (d+1) 3 [b]from f0)
  obtain rfl:b=_:=(List.cons.inj e).1
  obtain⟨v1,f,j⟩:=Sh.int (d:=d) Tryz.underlying3 (show Sh Tryz.prog (d+1) 3 [c]from f1)
  obtain rfl:c=_:=(List.cons.inj f).1
  exact⟨⟨v0,v1⟩,rfl,i,j⟩
def lT(x:aP):Prop:=((Lit.int .i64 x.a0).wf=true)∧((Lit.int .i64 x.a1).wf=true)∧((Lit.int .i64 x.a2).wf=true)
theorem sh_112{d:Nat}{cs:List PD}(h:Sh Tryz.prog (d+2) 112 cs):∃a:aP,cs=a.pd.cells∧lT a:=by
 have i:cs.length=3:=(Sh.alen (d:=d+1) Tryz.underlying112 h).trans (by kernel_rfl)
 have f0:Sh Tryz.prog (d+1) 3 ((cs.drop 0).take 1):=Sh.elem (d:=d+1) Tryz.underlying112 h 0 om rfl (by kernel_rfl)
 have f1:Sh Tryz.prog (d+1) 3 ((cs.drop 1).take 1):=Sh.elem (d:=d+1) Tryz.underlying112 h 1 om rfl (by kernel_rfl)
 have f2:Sh Tryz.prog (d+1) 3 ((cs.drop 2).take 1):=Sh.elem (d:=d+1) Tryz.underlying112 h 2 om rfl (by kernel_rfl)
 match cs,i with
 | [b,c,e],_=>
  obtain⟨v0,f,j⟩:=Sh.int (d:=d) Tryz.underlying3 (show Sh Tryz.prog (d+1) 3 [b]from f0)
  obtain rfl:b=_:=(List.cons.inj f).1
  obtain⟨v1,g,k⟩:=Sh.int (d:=d) Tryz.underlying3 (show Sh Tryz.prog (d+1) 3 [c]from f1)
  obtain rfl:c=_:=(List.cons.inj g).1
  obtain⟨v2,e2,l⟩:=Sh.int (d:=d) Tryz.underlying3 (show Sh Tryz.prog (d+1) 3 [e]from f2)
  obtain rfl:e=_:=(List.cons.inj e2).1
  exact⟨⟨v0,v1,v2⟩,rfl,j,k,l⟩
def im(x:au):Prop:=((Lit.int .i64 x.bu).wf=true)∧(lT x.aQ)∧(lT x.aL)∧(x.bp.length<=maxLen∧∀y∈x.bp,(Lit.int .i64 y).wf=true)∧((Lit.int .i64 x.bc).wf=true)∧((Lit.int .i64 x.bq).wf=true)
theorem sh_114{d:Nat}{cs:List PD}(h:Sh Tryz.prog (d+3) 114 cs):∃a:au,cs=a.pd.cells∧im a:=by
 have t:cs.length=10:=(Sh.tW (d:=d+2) Tryz.underlying114 h).trans (by kernel_rfl)
 have f0:Sh Tryz.prog (d+2) 3 ((cs.drop 0).take 1):=Sh.field (d:=d+2) Tryz.underlying114 h 0 rfl (by kernel_rfl)
 have f1:Sh Tryz.prog (d+2) 112 ((cs.drop 1).take 3):=Sh.field (d:=d+2) Tryz.underlying114 h 1 rfl (by kernel_rfl)
 have f2:Sh Tryz.prog (d+2) 112 ((cs.drop 4).take 3):=Sh.field (d:=d+2) Tryz.underlying114 h 2 rfl (by kernel_rfl)
 have f3:Sh Tryz.prog (d+2) 26 ((cs.drop 7).take 1):=Sh.field (d:=d+2) Tryz.underlying114 h 3 rfl (by kernel_rfl)
 have f4:Sh Tryz.prog (d+2) 3 ((cs.drop 8).take 1):=Sh.field (d:=d+2) Tryz.underlying114 h 4 rfl (by kernel_rfl)
 have f5:Sh Tryz.prog (d+2) 3 ((cs.drop 9).take 1):=Sh.field (d:=d+2) Tryz.underlying114 h 5 rfl (by kernel_rfl)
 match cs,t with
 | [b,j,k,l,m,n,o,c,e,f],_=>
  obtain⟨v0,p,u⟩:=Sh.int (d:=d+1) Tryz.underlying3 (show Sh Tryz.prog (d+1+1) 3 [b]from f0)
  obtain rfl:b=_:=(List.cons.inj p).1
  obtain⟨v1,i,v⟩:=sh_112 (d:=d) (show Sh Tryz.prog (d+2) 112 [j,k,l]from f1)
  simp only [aP.pd,PD.cells,List.cons.injEq,and_true]at i
  obtain⟨rfl,rfl,rfl⟩:=i
  obtain⟨v2,e2,x⟩:=sh_112 (d:=d) (show Sh Tryz.prog (d+2) 112 [m,n,o]from f2)
  simp only [aP.pd,PD.cells,List.cons.injEq,and_true]at e2
  obtain⟨rfl,rfl,rfl⟩:=e2
  obtain⟨v3,q,z⟩:=Sh.lst1 (d:=d+1) (g:=(PD.int .i64)) (Q:=fun y=>(Lit.int .i64 y).wf=true) Tryz.underlying26 (by kernel_rfl) (show Sh Tryz.prog (d+2) 26 [c]from f3) (fun _ h=>Sh.int Tryz.underlying3 h)
  obtain rfl:c=_:=(List.cons.inj q).1
  obtain⟨v4,r,B⟩:=Sh.int (d:=d+1) Tryz.underlying3 (show Sh Tryz.prog (d+1+1) 3 [e]from f4)
  obtain rfl:e=_:=(List.cons.inj r).1
  obtain⟨v5,s,C⟩:=Sh.int (d:=d+1) Tryz.underlying3 (show Sh Tryz.prog (d+1+1) 3 [f]from f5)
  obtain rfl:f=_:=(List.cons.inj s).1
  exact⟨⟨v0,v1,v2,v3,v4,v5⟩,rfl,u,v,x,z,B,C⟩
def iQ(x:aA):Prop:=(x.aD.length<=maxLen∧∀y∈x.aD,im y)
theorem sh_72{d:Nat}{cs:List PD}(h:Sh Tryz.prog (d+5) 72 cs):∃a:aA,cs=a.pd.cells∧iQ a:=by
 have e:cs.length=1:=(Sh.tW (d:=d+4) Tryz.underlying72 h).trans (by kernel_rfl)
 have f0:Sh Tryz.prog (d+4) 70 ((cs.drop 0).take 1):=Sh.field (d:=d+4) Tryz.underlying72 h 0 rfl (by kernel_rfl)
 match cs,e with
 | [b],_=>
  obtain⟨v0,c,f⟩:=Sh.lst (d:=d+3) (pd:=au.pd) (Q:=im) Tryz.underlying70 (by kernel_rfl) (show Sh Tryz.prog (d+4) 70 [b]from f0) (fun _=>rfl) (fun _ h=>sh_114 h)
  obtain rfl:b=_:=(List.cons.inj c).1
  exact⟨⟨v0⟩,rfl,f⟩
def il(x:al):Prop:=((Lit.int .i64 x.bC).wf=true)∧((Lit.int .i64 x.fTo).wf=true)∧(kH x.cm)∧(eo x.aI)∧(iQ x.ba)
theorem sh_74{d:Nat}{cs:List PD}(h:Sh Tryz.prog (d+6) 74 cs):∃a:al,cs=a.pd.cells∧il a:=by
 have p:cs.length=8:=(Sh.tW (d:=d+5) Tryz.underlying74 h).trans (by kernel_rfl)
 have f0:Sh Tryz.prog (d+5) 3 ((cs.drop 0).take 1):=Sh.field (d:=d+5) Tryz.underlying74 h 0 rfl (by kernel_rfl)
 have f1:Sh Tryz.prog (d+5) 3 ((cs.drop 1).take 1):=Sh.field (d:=d+5) Tryz.underlying74 h 1 rfl (by kernel_rfl)
 have f2:Sh Tryz.prog (d+5) 69 ((cs.drop 2).take 2):=Sh.field (d:=d+5) Tryz.underlying74 h 2 rfl (by kernel_rfl)
 have f3:Sh Tryz.prog (d+5) 23 ((cs.drop 4).take 3):=Sh.field (d:=d+5) Tryz.underlying74 h 3 rfl (by kernel_rfl)
 have f4:Sh Tryz.prog (d+5) 72 ((cs.drop 7).take 1):=Sh.field (d:=d+5) Tryz.underlying74 h 4 rfl (by kernel_rfl)
 match cs,p with
 | [b,c,g,i,j,k,l,e],_=>
  obtain⟨v0,m,q⟩:=Sh.int (d:=d+4) Tryz.underlying3 (show Sh Tryz.prog (d+4+1) 3 [b]from f0)
  obtain rfl:b=_:=(List.cons.inj m).1
  obtain⟨v1,n,r⟩:=Sh.int (d:=d+4) Tryz.underlying3 (show Sh Tryz.prog (d+4+1) 3 [c]from f1)
  obtain rfl:c=_:=(List.cons.inj n).1
  obtain⟨v2,e2,s⟩:=sh_69 (d:=d+3) (show Sh Tryz.prog (d+3+2) 69 [g,i]from f2)
  simp only [bh.pd,PD.cells,List.cons.injEq,and_true]at e2
  obtain⟨rfl,rfl⟩:=e2
  obtain⟨v3,f,t⟩:=sh_23 (d:=d+3) (show Sh Tryz.prog (d+3+2) 23 [j,k,l]from f3)
  simp only [ac.pd,PD.cells,List.cons.injEq,and_true]at f
  obtain⟨rfl,rfl,rfl⟩:=f
  obtain⟨v4,o,u⟩:=sh_72 (d:=d) (show Sh Tryz.prog (d+5) 72 [e]from f4)
  obtain rfl:e=_:=(List.cons.inj o).1
  exact⟨⟨v0,v1,v2,v3,v4⟩,rfl,q,r,s,t,u⟩
def gl(x:aj):Prop:=(fV x.az)∧(x.aH.length<=maxLen∧∀y∈x.aH,il y)
theorem sh_66{d:Nat}{cs:List PD}(h:Sh Tryz.prog (d+8) 66 cs):∃a:aj,cs=a.pd.cells∧gl a:=by
 have k:cs.length=5:=(Sh.tW (d:=d+7) Tryz.underlying66 h).trans (by kernel_rfl)
 have f0:Sh Tryz.prog (d+7) 63 ((cs.drop 0).take 4):=Sh.field (d:=d+7) Tryz.underlying66 h 0 rfl (by kernel_rfl)
 have f1:Sh Tryz.prog (d+7) 64 ((cs.drop 4).take 1):=Sh.field (d:=d+7) Tryz.underlying66 h 1 rfl (by kernel_rfl)
 match cs,k with
 | [e,f,g,i,b],_=>
  obtain⟨v0,c,l⟩:=sh_63 (d:=d+5) (show Sh Tryz.prog (d+5+2) 63 [e,f,g,i]from f0)
  simp only [ak.pd,PD.cells,List.cons.injEq,and_true]at c
  obtain⟨rfl,rfl,rfl,rfl⟩:=c
  obtain⟨v1,j,m⟩:=Sh.lst (d:=d+6) (pd:=al.pd) (Q:=il) Tryz.underlying64 (by kernel_rfl) (show Sh Tryz.prog (d+7) 64 [b]from f1) (fun _=>rfl) (fun _ h=>sh_74 h)
  obtain rfl:b=_:=(List.cons.inj j).1
  exact⟨⟨v0,v1⟩,rfl,l,m⟩
def dQ(x:ah):Prop:=(x.aw.length<=maxLen∧∀y∈x.aw,gl y)
theorem sh_37{d:Nat}{cs:List PD}(h:Sh Tryz.prog (d+10) 37 cs):∃a:ah,cs=a.pd.cells∧dQ a:=by
 have e:cs.length=1:=(Sh.tW (d:=d+9) Tryz.underlying37 h).trans (by kernel_rfl)
 have f0:Sh Tryz.prog (d+9) 35 ((cs.drop 0).take 1):=Sh.field (d:=d+9) Tryz.underlying37 h 0 rfl (by kernel_rfl)
 match cs,e with
 | [b],_=>
  obtain⟨v0,c,f⟩:=Sh.lst (d:=d+8) (pd:=aj.pd) (Q:=gl) Tryz.underlying35 (by kernel_rfl) (show Sh Tryz.prog (d+9) 35 [b]from f0) (fun _=>rfl) (fun _ h=>sh_66 h)
  obtain rfl:b=_:=(List.cons.inj c).1
  exact⟨⟨v0⟩,rfl,f⟩
def eP(x:ai):Prop:=(fV x.az)∧((Lit.int .i64 x.br).wf=true)∧((Lit.int .i64 x.bd).wf=true)∧((Lit.int .i64 x.bk).wf=true)∧((Lit.int .i64 x.aN).wf=true)∧((Lit.int .i64 x.aT).wf=true)
theorem sh_83{d:Nat}{cs:List PD}(h:Sh Tryz.prog (d+3) 83 cs):∃a:ai,cs=a.pd.cells∧eP a:=by
 have r:cs.length=9:=(Sh.tW (d:=d+2) Tryz.underlying83 h).trans (by kernel_rfl)
 have f0:Sh Tryz.prog (d+2) 63 ((cs.drop 0).take 4):=Sh.field (d:=d+2) Tryz.underlying83 h 0 rfl (by kernel_rfl)
 have f1:Sh Tryz.prog (d+2) 3 ((cs.drop 4).take 1):=Sh.field (d:=d+2) Tryz.underlying83 h 1 rfl (by kernel_rfl)
 have f2:Sh Tryz.prog (d+2) 3 ((cs.drop 5).take 1):=Sh.field (d:=d+2) Tryz.underlying83 h 2 rfl (by kernel_rfl)
 have f3:Sh Tryz.prog (d+2) 3 ((cs.drop 6).take 1):=Sh.field (d:=d+2) Tryz.underlying83 h 3 rfl (by kernel_rfl)
 have f4:Sh Tryz.prog (d+2) 3 ((cs.drop 7).take 1):=Sh.field (d:=d+2) Tryz.underlying83 h 4 rfl (by kernel_rfl)
 have f5:Sh Tryz.prog (d+2) 3 ((cs.drop 8).take 1):=Sh.field (d:=d+2) Tryz.underlying83 h 5 rfl (by kernel_rfl)
 match cs,r with
 | [j,k,l,m,b,c,e,f,g],_=>
  obtain⟨v0,i,s⟩:=sh_63 (d:=d) (show Sh Tryz.prog (d+2) 63 [j,k,l,m]from f0)
  simp only [ak.pd,PD.cells,List.cons.injEq,and_true]at i
  obtain⟨rfl,rfl,rfl,rfl⟩:=i
  obtain⟨v1,n,t⟩:=Sh.int (d:=d+1) Tryz.underlying3 (show Sh Tryz.prog (d+1+1) 3 [b]from f1)
  obtain rfl:b=_:=(List.cons.inj n).1
  obtain⟨v2,e2,u⟩:=Sh.int (d:=d+1) Tryz.underlying3 (show Sh Tryz.prog (d+1+1) 3 [c]from f2)
  obtain rfl:c=_:=(List.cons.inj e2).1
  obtain⟨v3,o,v⟩:=Sh.int (d:=d+1) Tryz.underlying3 (show Sh Tryz.prog (d+1+1) 3 [e]from f3)
  obtain rfl:e=_:=(List.cons.inj o).1
  obtain⟨v4,p,x⟩:=Sh.int (d:=d+1) Tryz.underlying3 (show Sh Tryz.prog (d+1+1) 3 [f]from f4)
  obtain rfl:f=_:=(List.cons.inj p).1
  obtain⟨v5,q,y⟩:=Sh.int (d:=d+1) Tryz.underlying3 (show Sh Tryz.prog (d+1+1) 3 [g]from f5)
  obtain rfl:g=_:=(List.cons.inj q).1
  exact⟨⟨v0,v1,v2,v3,v4,v5⟩,rfl,s,t,u,v,x,y⟩
theorem args_of{j:List PD}(h:xj Tryz.prog 10 [34,37,38,25,26] j):∃(s:ag)(v:ah)(a:List ai)(b:aq)(l:List Int),j=[s.pd,v.pd,.lst (a.map ai.pd),b.pd,.lst (l.map (.int .i64))]∧dQ v∧(∀p∈a,eP p):=by
 have y:∃c e f g i,j=[c,e,f,g,i]∧ShV Tryz.prog 10 34 c∧ShV Tryz.prog 10 37 e∧ShV Tryz.prog 10 38 f∧ShV Tryz.prog 10 25 g∧ShV Tryz.prog 10 26 i:=by
  rcases j with _|⟨c,_|⟨e,_|⟨f,_|⟨g,_|⟨i,_|⟨G,j⟩⟩⟩⟩⟩⟩
  ·exact h.elim
  ·exact h.2.elim
  ·exact h.2.2.elim
  ·exact h.2.2.2.elim
  ·exact h.2.2.2.2.elim
  ·exact⟨c,e,f,g,i,rfl,h.1,h.2.1,h.2.2.1,h.2.2.2.1,h.2.2.2.2.1⟩
  ·exact h.2.2.2.2.2.elim
 obtain⟨c,e,f,g,i,rfl,h1,q,r,t,z⟩:=y
 obtain⟨l,rfl,_⟩:=ShV.ints Tryz.underlying26 Tryz.underlying3 z
 obtain⟨s,u, -⟩:=sh_34 (d:=5) h1.2.2
 obtain⟨v,e2,E⟩:=sh_37 (d:=0) q.2.2
 obtain⟨a,o, -,F⟩:=Sh.lst (d:=9) (pd:=ai.pd) (Q:=eP) Tryz.underlying38 (by kernel_rfl) r.2.2 (fun _=>rfl) (fun _ h=>sh_83 (d:=6) h)
 obtain⟨b,x, -⟩:=sh_25 (d:=7) t.2.2
 rw [pW (r.2.1 (by kernel_rfl))]at o
 cases o
 obtain⟨k,rfl⟩:=h1.1 (by kernel_rfl)
 obtain⟨m,rfl⟩:=q.1 (by kernel_rfl)
 obtain⟨n,rfl⟩:=t.1 (by kernel_rfl)
 have B:PD.agg k=s.pd:=by
  have:k=s.pd.cells:=u
  rw [this];rfl
 have C:PD.agg m=v.pd:=by
  have:m=v.pd.cells:=e2
  rw [this];rfl
 have D:PD.agg n=b.pd:=by
  have:n=b.pd.cells:=x
  rw [this];rfl
 rw [B,C,D]
 exact⟨s,v,a,b,l,rfl,E,F⟩
theorem slen_of{p:ai}(h:eP p):SLen p:=h.1
theorem argI_of{v:ah}(h:dQ v):ArgI v:=
 ⟨h.1,fun c a=>(h.2 c a).1,fun c a e he=>((h.2 c a).2.2 e he).2.2.2.2.1⟩
theorem holds_of(s:ag){v:ah}{a:List ai}(b:aq)(l:List Int)(h1:dQ v)(c:∀p∈a,eP p):cU s v a b l=some true:=
 kB s v a b l (argI_of h1) (fun p e=>slen_of (c p e))
end Go.Dw.Es
