
import Derived.Test.YtgiepghgloiinaaGreatDoorIxLawO
import Derived.Test.YtgiepghgloiinaaGreatDoorDwSh
import Derived.Test.YtgiepghgloiinaaGreatDoorDwUpto
import Derived.Test.YtgiepghgloiinaaGreatDoorProg

set_option maxRecDepth 100000
namespace Go.Dw.Ix
open Go.Proofs Go.Dw
def gM(x:ac):Prop:=(x.aD.length<=maxLen)∧(x.aC.length<=maxLen)∧(x.au.length<=maxLen)∧(x.aF.length<=maxLen)
theorem sh_27{d:Nat}{cs:List PD}(h:Sh Tryz.prog (d+2) 27 cs):∃a:ac,cs=a.pd.cells∧gM a:=by
 have hl:cs.length=4:=(Sh.slen (d:=d+1) Tryz.underlying27 h).trans (by kernel_rfl)
 have f0:Sh Tryz.prog (d+1) 9 ((cs.drop 0).take 1):=Sh.field (d:=d+1) Tryz.underlying27 h 0 rfl (by kernel_rfl)
 have f1:Sh Tryz.prog (d+1) 9 ((cs.drop 1).take 1):=Sh.field (d:=d+1) Tryz.underlying27 h 1 rfl (by kernel_rfl)
 have f2:Sh Tryz.prog (d+1) 9 ((cs.drop 2).take 1):=Sh.field (d:=d+1) Tryz.underlying27 h 2 rfl (by kernel_rfl)
 have f3:Sh Tryz.prog (d+1) 9 ((cs.drop 3).take 1):=Sh.field (d:=d+1) Tryz.underlying27 h 3 rfl (by kernel_rfl)
 match cs,hl with
 | [c0,b,c,e],_=>
  obtain⟨v0,f,j⟩:=Sh.str (d:=d) Tryz.underlying9 (show Sh Tryz.prog (d+1) 9 [c0]from f0)
  obtain rfl:c0=_:=(List.cons.inj f).1
  obtain⟨v1,g,k⟩:=Sh.str (d:=d) Tryz.underlying9 (show Sh Tryz.prog (d+1) 9 [b]from f1)
  obtain rfl:b=_:=(List.cons.inj g).1
  obtain⟨v2,e2,l⟩:=Sh.str (d:=d) Tryz.underlying9 (show Sh Tryz.prog (d+1) 9 [c]from f2)
  obtain rfl:c=_:=(List.cons.inj e2).1
  obtain⟨v3,i,m⟩:=Sh.str (d:=d) Tryz.underlying9 (show Sh Tryz.prog (d+1) 9 [e]from f3)
  obtain rfl:e=_:=(List.cons.inj i).1
  exact⟨⟨v0,v1,v2,v3⟩,rfl,j,k,l,m⟩
def iS(x:av):Prop:=((Lit.int .i64 x.aI).wf=true)∧((Lit.int .i64 x.aH).wf=true)
theorem sh_34{d:Nat}{cs:List PD}(h:Sh Tryz.prog (d+2) 34 cs):∃a:av,cs=a.pd.cells∧iS a:=by
 have hl:cs.length=2:=(Sh.slen (d:=d+1) Tryz.underlying34 h).trans (by kernel_rfl)
 have f0:Sh Tryz.prog (d+1) 3 ((cs.drop 0).take 1):=Sh.field (d:=d+1) Tryz.underlying34 h 0 rfl (by kernel_rfl)
 have f1:Sh Tryz.prog (d+1) 3 ((cs.drop 1).take 1):=Sh.field (d:=d+1) Tryz.underlying34 h 1 rfl (by kernel_rfl)
 match cs,hl with
 | [c0,b],_=>
  obtain⟨v0,c,f⟩:=Sh.int (d:=d) Tryz.underlying3 (show Sh Tryz.prog (d+1) 3 [c0]from f0)
  obtain rfl:c0=_:=(List.cons.inj c).1
  obtain⟨v1,e,g⟩:=Sh.int (d:=d) Tryz.underlying3 (show Sh Tryz.prog (d+1) 3 [b]from f1)
  obtain rfl:b=_:=(List.cons.inj e).1
  exact⟨⟨v0,v1⟩,rfl,f,g⟩
def gK(x:aw):Prop:=((Lit.int .i64 x.fX).wf=true)∧((Lit.int .i64 x.fY).wf=true)∧((Lit.int .i64 x.fZ).wf=true)
theorem sh_36{d:Nat}{cs:List PD}(h:Sh Tryz.prog (d+2) 36 cs):∃a:aw,cs=a.pd.cells∧gK a:=by
 have hl:cs.length=3:=(Sh.slen (d:=d+1) Tryz.underlying36 h).trans (by kernel_rfl)
 have f0:Sh Tryz.prog (d+1) 3 ((cs.drop 0).take 1):=Sh.field (d:=d+1) Tryz.underlying36 h 0 rfl (by kernel_rfl)
 have f1:Sh Tryz.prog (d+1) 3 ((cs.drop 1).take 1):=Sh.field (d:=d+1) Tryz.underlying36 h 1 rfl (by kernel_rfl)
 have f2:Sh Tryz.prog (d+1) 3 ((cs.drop 2).take 1):=Sh.field (d:=d+1) Tryz.underlying36 h 2 rfl (by kernel_rfl)
 match cs,hl with
 | [c0,b,c],_=>
  obtain⟨v0,e,g⟩:=Sh.int (d:=d) Tryz.underlying3 (show Sh Tryz.prog (d+1) 3 [c0]from f0)
  obtain rfl:c0=_:=(List.cons.inj e).1
  obtain⟨v1,f,i⟩:=Sh.int (d:=d) Tryz.underlying3 (show Sh Tryz.prog (d+1) 3 [b]from f1)
  obtain rfl:b=_:=(List.cons.inj f).1
  obtain⟨v2,e2,j⟩:=Sh.int (d:=d) Tryz.underlying3 (show Sh Tryz.prog (d+1) 3 [c]from f2)
  obtain rfl:c=_:=(List.cons.inj e2).1
  exact⟨⟨v0,v1,v2⟩,rfl,g,i,j⟩
def ju(x:aK):Prop:=((Lit.int .i64 x.a0).wf=true)∧((Lit.int .i64 x.a1).wf=true)∧((Lit.int .i64 x.a2).wf=true)
theorem sh_82{d:Nat}{cs:List PD}(h:Sh Tryz.prog (d+2) 82 cs):∃a:aK,cs=a.pd.cells∧ju a:=by
 have hl:cs.length=3:=(Sh.alen (d:=d+1) Tryz.underlying82 h).trans (by kernel_rfl)
 have f0:Sh Tryz.prog (d+1) 3 ((cs.drop 0).take 1):=Sh.elem (d:=d+1) Tryz.underlying82 h 0 om rfl (by kernel_rfl)
 have f1:Sh Tryz.prog (d+1) 3 ((cs.drop 1).take 1):=Sh.elem (d:=d+1) Tryz.underlying82 h 1 om rfl (by kernel_rfl)
 have f2:Sh Tryz.prog (d+1) 3 ((cs.drop 2).take 1):=Sh.elem (d:=d+1) Tryz.underlying82 h 2 om rfl (by kernel_rfl)
 match cs,hl with
 | [c0,b,c],_=>
  obtain⟨v0,e,g⟩:=Sh.int (d:=d) Tryz.underlying3 (show Sh Tryz.prog (d+1) 3 [c0]from f0)
  obtain rfl:c0=_:=(List.cons.inj e).1
  obtain⟨v1,f,i⟩:=Sh.int (d:=d) Tryz.underlying3 (show Sh Tryz.prog (d+1) 3 [b]from f1)
  obtain rfl:b=_:=(List.cons.inj f).1
  obtain⟨v2,e2,j⟩:=Sh.int (d:=d) Tryz.underlying3 (show Sh Tryz.prog (d+1) 3 [c]from f2)
  obtain rfl:c=_:=(List.cons.inj e2).1
  exact⟨⟨v0,v1,v2⟩,rfl,g,i,j⟩
def gj(x:ak):Prop:=((Lit.int .i64 x.aQ).wf=true)∧(ju x.aI)∧(ju x.aH)∧(x.aO.length<=maxLen∧∀y∈x.aO,(Lit.int .i64 y).wf=true)∧((Lit.int .i64 x.aJ).wf=true)∧((Lit.int .i64 x.aS).wf=true)
theorem sh_84{d:Nat}{cs:List PD}(h:Sh Tryz.prog (d+3) 84 cs):∃a:ak,cs=a.pd.cells∧gj a:=by
 have hl:cs.length=10:=(Sh.slen (d:=d+2) Tryz.underlying84 h).trans (by kernel_rfl)
 have f0:Sh Tryz.prog (d+2) 3 ((cs.drop 0).take 1):=Sh.field (d:=d+2) Tryz.underlying84 h 0 rfl (by kernel_rfl)
 have f1:Sh Tryz.prog (d+2) 82 ((cs.drop 1).take 3):=Sh.field (d:=d+2) Tryz.underlying84 h 1 rfl (by kernel_rfl)
 have f2:Sh Tryz.prog (d+2) 82 ((cs.drop 4).take 3):=Sh.field (d:=d+2) Tryz.underlying84 h 2 rfl (by kernel_rfl)
 have f3:Sh Tryz.prog (d+2) 22 ((cs.drop 7).take 1):=Sh.field (d:=d+2) Tryz.underlying84 h 3 rfl (by kernel_rfl)
 have f4:Sh Tryz.prog (d+2) 3 ((cs.drop 8).take 1):=Sh.field (d:=d+2) Tryz.underlying84 h 4 rfl (by kernel_rfl)
 have f5:Sh Tryz.prog (d+2) 3 ((cs.drop 9).take 1):=Sh.field (d:=d+2) Tryz.underlying84 h 5 rfl (by kernel_rfl)
 match cs,hl with
 | [c0,i,j,k,l,m,n,b,c,e],_=>
  obtain⟨v0,o,s⟩:=Sh.int (d:=d+1) Tryz.underlying3 (show Sh Tryz.prog (d+1+1) 3 [c0]from f0)
  obtain rfl:c0=_:=(List.cons.inj o).1
  obtain⟨v1,f,t⟩:=sh_82 (d:=d) (show Sh Tryz.prog (d+2) 82 [i,j,k]from f1)
  simp only [aK.pd,PD.cells,List.cons.injEq,and_true]at f
  obtain⟨rfl,rfl,rfl⟩:=f
  obtain⟨v2,e2,u⟩:=sh_82 (d:=d) (show Sh Tryz.prog (d+2) 82 [l,m,n]from f2)
  simp only [aK.pd,PD.cells,List.cons.injEq,and_true]at e2
  obtain⟨rfl,rfl,rfl⟩:=e2
  obtain⟨v3,p,v⟩:=Sh.lst1 (d:=d+1) (g:=(PD.int .i64)) (Q:=fun y=>(Lit.int .i64 y).wf=true) Tryz.underlying22 (by kernel_rfl) (show Sh Tryz.prog (d+2) 22 [b]from f3) (fun _ h=>Sh.int Tryz.underlying3 h)
  obtain rfl:b=_:=(List.cons.inj p).1
  obtain⟨v4,q,x⟩:=Sh.int (d:=d+1) Tryz.underlying3 (show Sh Tryz.prog (d+1+1) 3 [c]from f4)
  obtain rfl:c=_:=(List.cons.inj q).1
  obtain⟨v5,r,z⟩:=Sh.int (d:=d+1) Tryz.underlying3 (show Sh Tryz.prog (d+1+1) 3 [e]from f5)
  obtain rfl:e=_:=(List.cons.inj r).1
  exact⟨⟨v0,v1,v2,v3,v4,v5⟩,rfl,s,t,u,v,x,z⟩
def gL(x:ar):Prop:=(x.aA.length<=maxLen∧∀y∈x.aA,gj y)
theorem sh_39{d:Nat}{cs:List PD}(h:Sh Tryz.prog (d+5) 39 cs):∃a:ar,cs=a.pd.cells∧gL a:=by
 have hl:cs.length=1:=(Sh.slen (d:=d+4) Tryz.underlying39 h).trans (by kernel_rfl)
 have f0:Sh Tryz.prog (d+4) 37 ((cs.drop 0).take 1):=Sh.field (d:=d+4) Tryz.underlying39 h 0 rfl (by kernel_rfl)
 match cs,hl with
 | [c0],_=>
  obtain⟨v0,b,c⟩:=Sh.lst (d:=d+3) (pd:=ak.pd) (Q:=gj) Tryz.underlying37 (by kernel_rfl) (show Sh Tryz.prog (d+4) 37 [c0]from f0) (fun _=>rfl) (fun _ h=>sh_84 h)
  obtain rfl:c0=_:=(List.cons.inj b).1
  exact⟨⟨v0⟩,rfl,c⟩
def gi(x:ah):Prop:=((Lit.int .i64 x.az).wf=true)∧((Lit.int .i64 x.fTo).wf=true)∧(iS x.aM)∧(gK x.aq)∧(gL x.aB)
theorem sh_41{d:Nat}{cs:List PD}(h:Sh Tryz.prog (d+6) 41 cs):∃a:ah,cs=a.pd.cells∧gi a:=by
 have hl:cs.length=8:=(Sh.slen (d:=d+5) Tryz.underlying41 h).trans (by kernel_rfl)
 have f0:Sh Tryz.prog (d+5) 3 ((cs.drop 0).take 1):=Sh.field (d:=d+5) Tryz.underlying41 h 0 rfl (by kernel_rfl)
 have f1:Sh Tryz.prog (d+5) 3 ((cs.drop 1).take 1):=Sh.field (d:=d+5) Tryz.underlying41 h 1 rfl (by kernel_rfl)
 have f2:Sh Tryz.prog (d+5) 34 ((cs.drop 2).take 2):=Sh.field (d:=d+5) Tryz.underlying41 h 2 rfl (by kernel_rfl)
 have f3:Sh Tryz.prog (d+5) 36 ((cs.drop 4).take 3):=Sh.field (d:=d+5) Tryz.underlying41 h 3 rfl (by kernel_rfl)
 have f4:Sh Tryz.prog (d+5) 39 ((cs.drop 7).take 1):=Sh.field (d:=d+5) Tryz.underlying41 h 4 rfl (by kernel_rfl)
 match cs,hl with
 | [c0,b,f,g,i,j,k,c],_=>
  obtain⟨v0,l,o⟩:=Sh.int (d:=d+4) Tryz.underlying3 (show Sh Tryz.prog (d+4+1) 3 [c0]from f0)
  obtain rfl:c0=_:=(List.cons.inj l).1
  obtain⟨v1,m,p⟩:=Sh.int (d:=d+4) Tryz.underlying3 (show Sh Tryz.prog (d+4+1) 3 [b]from f1)
  obtain rfl:b=_:=(List.cons.inj m).1
  obtain⟨v2,e2,q⟩:=sh_34 (d:=d+3) (show Sh Tryz.prog (d+3+2) 34 [f,g]from f2)
  simp only [av.pd,PD.cells,List.cons.injEq,and_true]at e2
  obtain⟨rfl,rfl⟩:=e2
  obtain⟨v3,e,r⟩:=sh_36 (d:=d+3) (show Sh Tryz.prog (d+3+2) 36 [i,j,k]from f3)
  simp only [aw.pd,PD.cells,List.cons.injEq,and_true]at e
  obtain⟨rfl,rfl,rfl⟩:=e
  obtain⟨v4,n,s⟩:=sh_39 (d:=d) (show Sh Tryz.prog (d+5) 39 [c]from f4)
  obtain rfl:c=_:=(List.cons.inj n).1
  exact⟨⟨v0,v1,v2,v3,v4⟩,rfl,o,p,q,r,s⟩
def fi(x:aa):Prop:=(gM x.aj)∧(x.al.length<=maxLen∧∀y∈x.al,gi y)
theorem sh_32{d:Nat}{cs:List PD}(h:Sh Tryz.prog (d+8) 32 cs):∃a:aa,cs=a.pd.cells∧fi a:=by
 have hl:cs.length=5:=(Sh.slen (d:=d+7) Tryz.underlying32 h).trans (by kernel_rfl)
 have f0:Sh Tryz.prog (d+7) 27 ((cs.drop 0).take 4):=Sh.field (d:=d+7) Tryz.underlying32 h 0 rfl (by kernel_rfl)
 have f1:Sh Tryz.prog (d+7) 30 ((cs.drop 4).take 1):=Sh.field (d:=d+7) Tryz.underlying32 h 1 rfl (by kernel_rfl)
 match cs,hl with
 | [c0,e,f,g,b],_=>
  obtain⟨v0,c,j⟩:=sh_27 (d:=d+5) (show Sh Tryz.prog (d+5+2) 27 [c0,e,f,g]from f0)
  simp only [ac.pd,PD.cells,List.cons.injEq,and_true]at c
  obtain⟨rfl,rfl,rfl,rfl⟩:=c
  obtain⟨v1,i,k⟩:=Sh.lst (d:=d+6) (pd:=ah.pd) (Q:=gi) Tryz.underlying30 (by kernel_rfl) (show Sh Tryz.prog (d+7) 30 [b]from f1) (fun _=>rfl) (fun _ h=>sh_41 h)
  obtain rfl:b=_:=(List.cons.inj i).1
  exact⟨⟨v0,v1⟩,rfl,j,k⟩
def jj(x:ai):Prop:=(x.am.length<=maxLen∧∀y∈x.am,fi y)
theorem sh_25{d:Nat}{cs:List PD}(h:Sh Tryz.prog (d+10) 25 cs):∃a:ai,cs=a.pd.cells∧jj a:=by
 have hl:cs.length=1:=(Sh.slen (d:=d+9) Tryz.underlying25 h).trans (by kernel_rfl)
 have f0:Sh Tryz.prog (d+9) 23 ((cs.drop 0).take 1):=Sh.field (d:=d+9) Tryz.underlying25 h 0 rfl (by kernel_rfl)
 match cs,hl with
 | [c0],_=>
  obtain⟨v0,b,c⟩:=Sh.lst (d:=d+8) (pd:=aa.pd) (Q:=fi) Tryz.underlying23 (by kernel_rfl) (show Sh Tryz.prog (d+9) 23 [c0]from f0) (fun _=>rfl) (fun _ h=>sh_32 h)
  obtain rfl:c0=_:=(List.cons.inj b).1
  exact⟨⟨v0⟩,rfl,c⟩
theorem args_of{g:List PD}(h:vp Tryz.prog 10 [22,25,27,3,9] g):∃(l:List Int)(v:ai)(s:ac)(x:Int)(p:List UInt8),g=[.lst (l.map (.int .i64)),v.pd,s.pd,.int .i64 x,.str p]:=by
 have o:∃a b c e f,g=[a,b,c,e,f]∧ShV Tryz.prog 10 22 a∧ShV Tryz.prog 10 25 b∧ShV Tryz.prog 10 27 c∧ShV Tryz.prog 10 3 e∧ShV Tryz.prog 10 9 f:=by
  rcases g with _|⟨a,_|⟨b,_|⟨c,_|⟨e,_|⟨f,_|⟨u,g⟩⟩⟩⟩⟩⟩
  ·exact h.elim
  ·exact h.2.elim
  ·exact h.2.2.elim
  ·exact h.2.2.2.elim
  ·exact h.2.2.2.2.elim
  ·exact⟨a,b,c,e,f,rfl,h.1,h.2.1,h.2.2.1,h.2.2.2.1,h.2.2.2.2.1⟩
  ·exact h.2.2.2.2.2.elim
 obtain⟨a,b,c,e,f,rfl,h1,k,m,q,r⟩:=o
 obtain⟨l,rfl,_⟩:=ShV.ints Tryz.underlying22 Tryz.underlying3 h1
 obtain⟨v,e2, -⟩:=sh_25 (d:=0) k.2.2
 obtain⟨s,n, -⟩:=sh_27 (d:=8) m.2.2
 obtain⟨x,rfl, -⟩:=ShV.int Tryz.underlying3 q
 obtain⟨p,rfl, -⟩:=ShV.str Tryz.underlying9 r
 obtain⟨i,rfl⟩:=k.1 (by kernel_rfl)
 obtain⟨j,rfl⟩:=m.1 (by kernel_rfl)
 have t:PD.agg i=v.pd:=by
  have:i=v.pd.cells:=e2
  rw [this];rfl
 have k3:PD.agg j=s.pd:=by
  have:j=s.pd.cells:=n
  rw [this];rfl
 rw [t,k3]
 exact⟨l,v,s,x,p,rfl⟩
theorem wdL{N:Nat}{es:List PD}(h:Wd N (.lst es)):∀e∈es,Wd N e:=by cases h with|lst _ h1 a=>exact a
theorem wdI{N:Nat}{l:List Int}(h:Wd N (.lst (l.map (PD.int .i64)))):l.length*8<=N:=by
 cases h with
 |lst _ h1 a=>
  rw [List.length_map]at h1
  exact h1 fun e he=>by obtain⟨n, -,rfl⟩:=List.mem_map.1 he;exact⟨n,rfl⟩
theorem wdA{N:Nat}{es:List PD}(h:Wd N (.agg es)):∀e∈es,Wd N e:=by cases h with|agg _ h1=>exact h1
theorem wdS{N:Nat}{s:List UInt8}(h:Wd N (.str s)):s.length<=N:=by cases h with|str _ h1=>exact h1
theorem wok_of{v:ai}(h:Wd reachBytes v.pd):WOk v.am:=by
 unfold reachBytes at h
 have a:=wdL (wdA h (.lst (v.am.map aa.pd)) sm)
 intro c hc
 have g:=wdA (a c.pd (List.mem_map.2 ⟨c,hc,rfl⟩))
 have s1:=wdS (g (.str c.aj.aD) sm)
 have s2:=wdS (g (.str c.aj.aC) sm)
 have k:=wdS (g (.str c.aj.au) sm)
 have l:=wdS (g (.str c.aj.aF) sm)
 have b:=wdL (g (.lst (c.al.map ah.pd)) sm)
 refine⟨⟨om,om,om,om⟩,fun e he s i=>?_⟩
 have f:=wdL (wdA (b e.pd (List.mem_map.2 ⟨e,he,rfl⟩)) (.lst (e.aB.aA.map ak.pd)) sm)
 have j:=wdI (wdA (f s.pd (List.mem_map.2 ⟨s,i,rfl⟩)) (.lst (s.aO.map (PD.int .i64))) sm)
 omega
theorem holds_of(l:List Int){v:ai}(s:ac)(x:Int)(p:List UInt8)(h:Wd reachBytes v.pd):cr l v s x p=some true:=
 jx l (w:=v.am) (wok_of h) s x p
end Go.Dw.Ix
