
import Derived.Test.YthkfkgoddhehcaaGreatProg
import Derived.WalkKit
import Derived.BigCall
import Derived.Lib.Walk
import Derived.Lib.AppendZeros
import Derived.Laws.NewBlocks
import Derived.Test.YthkfkgoddhehcaaGreatDwGrow
import Derived.Test.YthkfkgoddhehcaaGreatDwArg
import Derived.Deep.Heap
import Derived.Deep.RegionLaw
import Derived.BigRegion
import Derived.Handy
import Derived.Deep.RegionHeld3
set_option linter.unusedVariables false
set_option linter.unusedSimpArgs false
open Nat renaming le_refl->EB, le_trans->EO, zero_add->EJ

namespace Go.Dw
open Go.Proofs Go.Lib Go.RowKit
theorem old_block{w:World}{o o':Obj}{n:Nat}(h:w.heap[n]? =some o'):(w.alloc o).heap[n]? =some o':=by
  rw [Go.Deep.blk_alloc_lt w o n (Array.getElem?_eq_some_iff.1 h).1]
  exact h
theorem Step.setCell(w:World)(b o:Nat)(v:Value):Step (some b) w (w.setCell ⟨b,o,none⟩ v):=
  ⟨rfl,rfl,rfl,by simp [World.setCell],λk _ hne=>Go.Deep.blk_setCell_other w _ v k (λe=>hne (by rw [e])),EB _⟩
theorem setCell_blk{w:World}{b o:Nat}{v:Value}{cs:Array Value}{T:TypeId}{fz:Nat×Nat}(h:w.heap[b]? =some (.cells cs T fz)):(w.setCell ⟨b,o,none⟩ v).heap[b]? =some (.cells (cs.setIfInBounds o v) T fz):=by
  simp [World.setCell,Array.getElem?_modify,h]
section
variable {P:Program}
theorem wp_app(w:World){ops:Array Oper}{rest:List Oper}{o:Oper}{a:Act}{Q:Exit->Act->World->Prop}(hgd:o.guard=none)(s x:Operand)(t:TypeId)
    (ho:o.op= .call { callee:= .builtin .append,args:= #[s,x],argTypes:= #[t,t] }) {v:Value} {ad:Option Addr} {m c:Nat} (hs:a.eval s=v) (hx:a.eval x= .slice ad m c)
    {e:TypeId} {i:TypeInfo} {z:Value} {sz by_:Nat} (ht:P.underlying t=some (.slice e)) (hi:P.info? e=some i) (hz:i.zero=some z) (hsize:i.size=sz) (hby:i.bytes=by_+1)
    (hzs:z.cells.size=sz) (hsz:0<sz) {n:Nat} {xs news:List Value} (hrow:rowAt w e sz v n xs) (hnl:news.length=m*sz) (h1:∀u∈news,u.oneCell'=true)
    (hcell:m≠0->∃b,ad=some b∧∀(j:Nat)u,news[j]? =some u->w.cell? (b.add j)=some u) (hbytes:(n+m)*(by_+1)<=140737488355328)
    (h:∀v' w',rowAt w' e sz v' (n+m) (xs++news)->Step (tM v) w w'->v'.oneCell'=true->(∀g,tM v'=some g->tM v=some g∨w.heap.size<=g)->wpList P ops Q rest (a.put o.dst v') w'):
    wpList P ops Q (o::rest) a w:=by
  obtain⟨v',w',hr,h2,h3,h4,h5⟩:=AT (P:=P) (ty:=o.type) (c:=c) ht hi hz hsize hby hzs hsz hrow hnl h1 hcell hbytes
  exact Lib.wpList_append_run w hgd s x t t ho v _ hs hx v' w' hr (h v' w' h2 h3 h4 h5)
end
theorem info67:∃i0 z,Tryz.prog.info? 67=some i0∧i0.zero=some z∧i0.size=5∧i0.bytes=87+1∧z.cells.size=5:=
  ⟨(Tryz.prog.info? 67).get (by kernel_rfl),((Tryz.prog.info? 67).get (by kernel_rfl)).zero.getD (.bool false),(Option.some_get _).symm,by kernel_rfl,by kernel_rfl,by kernel_rfl,by kernel_rfl⟩
theorem info75:∃i0 z,Tryz.prog.info? 75=some i0∧i0.zero=some z∧i0.size=8∧i0.bytes=79+1∧z.cells.size=8:=
  ⟨(Tryz.prog.info? 75).get (by kernel_rfl),((Tryz.prog.info? 75).get (by kernel_rfl)).zero.getD (.bool false),(Option.some_get _).symm,by kernel_rfl,by kernel_rfl,by kernel_rfl,by kernel_rfl⟩
structure CV where
  s0:ByteArray
  s1:ByteArray
  s2:ByteArray
  s3:ByteArray
  ad:Option Addr
  m:Nat
  cc:Nat
  ys:List Value
def CV.vs(x:CV):List Value:=[.string x.s0,.string x.s1,.string x.s2,.string x.s3,.slice x.ad x.m x.cc]
structure CVOk(S:tG)(x:CV):Prop where
  len:x.ys.length=x.m*8
  le:x.m<=1000
  ones:∀u∈x.ys,u.oneCell'=true
  cell:x.m≠0->∃b,x.ad=some b∧∀(j:Nat)u,x.ys[j]? =some u->S (b.add j)=some u
inductive Inner(w:World):List CV->List Value->List Nat->Prop
  |nil:Inner w [] [] []
  |cons {x:CV} {l:List CV} {xs:List Value} {bs:List Nat} (v:Value) (h:rowAt w 75 8 v x.m x.ys) (t:Inner w l xs bs):Inner w (x::l) (.string x.s0:: .string x.s1:: .string x.s2:: .string x.s3::v::xs) ((tM v).toList++bs)
theorem Inner.j0{w w':World}{l:List CV}{xs:List Value}{bs:List Nat}(h:Inner w l xs bs)(hb:∀b∈bs,w'.heap[b]? =w.heap[b]?):Inner w' l xs bs:=by
  induction h with
  |nil=>exact .nil
  |cons v h _ ih=>exact .cons v (h.j0 λb hbv=>hb b (List.mem_append.2 (.inl (by simpa using hbv)))) (ih λb hbb=>hb b (List.mem_append.2 (.inr hbb)))
theorem Inner.append{w:World}{l l':List CV}{xs xs':List Value}{bs bs':List Nat}(h:Inner w l xs bs)(h':Inner w l' xs' bs'):Inner w (l++l') (xs++xs') (bs++bs'):=by
  induction h with
  |nil=>exact h'
  |cons v h _ ih=>rw [List.append_assoc];exact .cons v h ih
theorem Inner.lt{w:World}{l:List CV}{xs:List Value}{bs:List Nat}(h:Inner w l xs bs):∀b∈bs,b<w.heap.size:=by
  induction h with
  |nil=>intro b hb;cases hb
  |cons v h _ ih=>
    intro b hb
    rcases List.mem_append.1 hb with hb|hb
    · exact h.lt (by simpa using hb)
    · exact ih b hb
theorem Inner.len{w:World}{l:List CV}{xs:List Value}{bs:List Nat}(h:Inner w l xs bs):xs.length=l.length*5:=by
  induction h with
  |nil=>rfl
  |cons v h _ ih=>simp only [List.length_cons,ih];omega
theorem Inner.get{w:World}{l:List CV}{xs:List Value}{bs:List Nat}(h:Inner w l xs bs):∀{k:Nat}{x:CV},l[k]? =some x->
    ∃v bs1 bs2,bs=bs1++((tM v).toList++bs2)∧xs[k*5+4]? =some v∧rowAt w 75 8 v x.m x.ys∧
      ∀(w':World)(ys':List Value),(∀b∈bs1++bs2,w'.heap[b]? =w.heap[b]?)->rowAt w' 75 8 v x.m ys'->Inner w' (l.set k { x with ys:=ys' }) xs bs:=by
  induction h with
  |nil=>intro k x hk;simp at hk
  | @cons x0 l0 xs0 bs0 v0 h t ih=>
    intro k x hk
    cases k with
    |zero=>
      simp only [List.getElem?_cons_zero,Option.some.injEq]at hk
      subst hk
      exact⟨v0,[],bs0,rfl,rfl,h,λw' ys' hb hr=>Inner.cons (x:={ x0 with ys:=ys' }) v0 hr (t.j0 λb hbb=>hb b (by simpa using hbb))⟩
    |succ k=>
      obtain⟨v,bs1,bs2,h1,h2,h3,h4⟩:=ih (k:=k) (by simpa using hk)
      refine⟨v,(tM v0).toList++bs1,bs2,by rw [h1,List.append_assoc],?_,h3,λw' ys' hb hr=>?_⟩
      · rw [show(k+1)*5+4=(k*5+4)+5 by omega]
        simpa using h2
      · exact .cons v0 (h.j0 λb hbv => hb b (by simp [hbv])) (h4 w' ys' (λb hbb => hb b (by
          rcases List.mem_append.1 hbb with hbb|hbb<;>simp [hbb])) hr)
theorem Step.over{w w1 w2:World}{g:Option Nat}(h:Step none w w1)(h':Step g w1 w2)(hg:∀b,g=some b->w.heap.size<=b):Step none w w2:=
  ⟨h'.os.trans h.os, h'.tape.trans h.tape, h'.output.trans h.output, EO h.size h'.size, λb hb _ => by
    rw [h'.block b (Nat.lt_of_lt_of_le hb h.size) (λe=>by have:=hg b e.symm;omega),h.block b hb (by simp)],EO h.drawn h'.drawn⟩
theorem take_succ'{α:Type}{l:List α}{k:Nat}{x:α}(h:l[k]? =some x):l.take (k+1)=l.take k++[x]:=by rw [List.take_add_one,h];rfl
theorem own0_at{w:World}{e:TypeId}{sz n g c:Nat}{xs:List Value}(h:uY w e sz (.slice (some ⟨g,0,none⟩) n c) n xs)(hn:0<n):tM (.slice (some ⟨g,0,none⟩) n c)=some g:=by
  rcases h.2 with⟨h, -⟩|⟨g',cap,cur,fz,h, -, -,h1, -⟩
  · cases h
  · cases h
    cases c with
    |zero=>omega
    |succ c=>rfl
theorem row_heap{w:World}{e:TypeId}{sz n g c:Nat}{xs:List Value}(h:uY w e sz (.slice (some ⟨g,0,none⟩) n c) n xs)(hn:0<n)(hs:sz≠1):∃cur,w.heap[g]? =some (.cells cur e (0,0))∧c*sz=cur.size∧cur.toList.take (n*sz)=xs∧n<=c∧c<=maxLen:=by
  rcases h.2 with⟨h, -⟩|⟨g',cap,cur,fz,h,hfz,hg,h1,h2,h3,h4⟩
  · cases h
  · cases h
    obtain rfl:fz=(0,0):=by rcases hfz with h|⟨-,h⟩;exact h;omega
    exact⟨cur,hg,h3.symm,h4,h1,h2⟩
structure Ben(w:World)(l:List CV)(k:Nat)(wr:World)(hdr:Value)(xs:List Value)(bs:List Nat):Prop where
  step:Step none w wr
  out:wr.heap[w.heap.size+2]? =some (.cells #[hdr] 37 (0,0))
  res:wr.heap[w.heap.size+1]? =some (.cells #[.slice none 0 0] 37 (0,0))
  row:rowAt wr 67 5 hdr k xs
  inn:Inner wr (l.take k) xs bs
  nd:((tM hdr).toList++bs).Nodup
  ge:∀b∈(tM hdr).toList++bs,w.heap.size+3<=b
theorem Ben.hdr_ge{w wr:World}{l:List CV}{k:Nat}{hdr:Value}{xs:List Value}{bs:List Nat}(h:Ben w l k wr hdr xs bs){g:Nat}(hg:tM hdr=some g):w.heap.size+3<=g∧g<wr.heap.size∧g∉bs:=
  ⟨h.ge g (by simp [hg]),h.row.lt hg,λhm=>(List.nodup_append.1 h.nd).2.2 g (by simp [hg]) g hm rfl⟩
theorem Ben.next{w wr W1 W2:World}{l:List CV}{k:Nat}{hdr hdr' v1:Value}{xs:List Value}{bs:List Nat}{x:CV}{c7 c8 c9:Obj}{r0:Value}(hB:Ben w l k wr hdr xs bs)(hx:l[k]? =some x)
    (hr0:tM r0=none) (hs1:Step (tM r0) ((wr.alloc c7).alloc c8) W1) (hr1:rowAt W1 75 8 v1 x.m x.ys) (hg1:∀g,tM v1=some g->tM r0=some g∨wr.heap.size+1+1<=g)
    (hs2:Step (tM hdr) ((W1.setCell ⟨wr.heap.size,4,none⟩ v1).alloc c9) W2) (hr2:rowAt W2 67 5 hdr' (k+1) (xs++[.string x.s0,.string x.s1,.string x.s2,.string x.s3,v1]))
    (hg2:∀g,tM hdr'=some g->tM hdr=some g∨W1.heap.size+1<=g):
    Ben w l (k+1) (W2.setCell ⟨w.heap.size+2,0,none⟩ hdr') hdr' (xs++[.string x.s0,.string x.s1,.string x.s2,.string x.s3,v1]) (bs++(tM v1).toList):=by
  rw [hr0]at hs1 hg1
  have hN:w.heap.size+2<wr.heap.size:=(Array.getElem?_eq_some_iff.1 hB.out).1
  have zA:((wr.alloc c7).alloc c8).heap.size=wr.heap.size+2:=by simp
  have z1:=hs1.size
  have zB:((W1.setCell ⟨wr.heap.size,4,none⟩ v1).alloc c9).heap.size=W1.heap.size+1:=by simp [World.setCell]
  have z2:=hs2.size
  rw [zA]at z1
  rw [zB]at z2
  have hv1:∀g,tM v1=some g->wr.heap.size+2<=g∧g<W1.heap.size:=λg hg=>⟨(hg1 g hg).resolve_left (by simp),hr1.lt hg⟩
  have hh':∀g,tM hdr'=some g->tM hdr=some g∨W1.heap.size+1<=g:=hg2
  have stay1:∀b,b<wr.heap.size->W1.heap[b]? =wr.heap[b]? :=λb hb=>by
    rw [hs1.block b (by omega) (by simp),Go.Deep.blk_alloc_lt _ _ b (by simp;omega),Go.Deep.blk_alloc_lt _ _ b hb]
  have stay2:∀b,b<W1.heap.size->b≠wr.heap.size->tM hdr≠some b->b≠w.heap.size+2->(W2.setCell ⟨w.heap.size+2,0,none⟩ hdr').heap[b]? =W1.heap[b]? :=λb hb h1 h2 h3=>by
    rw [Go.Deep.blk_setCell_other _ _ _ _ h3,hs2.block b (by omega) (λe=>h2 e.symm),Go.Deep.blk_alloc_lt _ _ b (by simp [World.setCell];omega),Go.Deep.blk_setCell_other _ _ _ _ h1]
  have stay:∀b,b<wr.heap.size->tM hdr≠some b->b≠w.heap.size+2->(W2.setCell ⟨w.heap.size+2,0,none⟩ hdr').heap[b]? =wr.heap[b]? :=λb hb h2 h3=>by
    rw [stay2 b (by omega) (by omega) h2 h3,stay1 b hb]
  have hdN:∀g,tM hdr=some g->w.heap.size+3<=g∧g<wr.heap.size∧g∉bs:=λg hg=>hB.hdr_ge hg
  have hbl:∀b∈bs,b<wr.heap.size:=hB.inn.lt
  have hbg:∀b∈bs,w.heap.size+3<=b:=λb hb=>hB.ge b (List.mem_append.2 (.inr hb))
  have hout2:W2.heap[w.heap.size+2]? =some (.cells #[hdr] 37 (0,0)):=by
    rw [hs2.block _ (by omega) (λe=>by have:=(hdN _ e.symm).1;omega),Go.Deep.blk_alloc_lt _ _ _ (by simp [World.setCell];omega),Go.Deep.blk_setCell_other _ _ _ _ (by simp;omega),stay1 _ hN]
    exact hB.out
  refine⟨?_,?_,?_,?_,?_,?_,?_⟩
  · have s1:Step none w W1:=((hB.step.trans (Step.alloc _ _)).trans (Step.alloc _ _)).trans hs1
    have s2:=(s1.over (Step.setCell W1 wr.heap.size 4 v1) (λb hb=>by cases hb;omega)).trans (Step.alloc _ c9)
    exact(s2.over hs2 λb hb=>by have:=(hdN b hb).1;omega).over (Step.setCell W2 _ 0 hdr') (λb hb=>by cases hb;omega)
  · exact setCell_blk hout2
  · rw [stay _ (by omega) (λe=>by have:=(hdN _ e).1;omega) (by omega)]
    exact hB.res
  · refine hr2.j0 λb hb=>Go.Deep.blk_setCell_other _ _ _ _ λe=>?_
    simp only at e
    subst e
    rcases hh' _ hb with h|h
    · have:=(hdN _ h).1;omega
    · omega
  · rw [take_succ' hx]
    refine(hB.inn.j0 λb hb=>stay b (hbl b hb) (λe=>(hdN b e).2.2 hb) (by have:=hbg b hb;omega)).append ?_
    have:=Inner.cons (x:=x) v1 (hr1.j0 (w':=W2.setCell ⟨w.heap.size+2,0,none⟩ hdr') λb hb=>?_) .nil
    · simpa using this
    · obtain⟨h1,h2⟩:=hv1 b hb
      exact stay2 b h2 (by omega) (λe=>by have:=(hdN b e).2.1;omega) (by omega)
  · have hbs:=(List.nodup_append.1 hB.nd).2.1
    refine List.nodup_append.2 ⟨by cases tM hdr'<;>simp,List.nodup_append.2 ⟨hbs,by cases tM v1<;>simp,λa ha b hb e=>?_⟩,λa ha b hb e=>?_⟩
    · subst e
      have:=(hv1 a (by simpa using hb)).1
      have:=hbl a ha
      omega
    · subst e
      have ha':tM hdr'=some a:=by simpa using ha
      rcases List.mem_append.1 hb with hb|hb
      · rcases hh' a ha' with h|h
        · exact(hdN a h).2.2 hb
        · have:=hbl a hb;omega
      · have h1:=hv1 a (by simpa using hb)
        rcases hh' a ha' with h|h
        · have:=(hdN a h).2.1;omega
        · omega
  · intro b hb
    rcases List.mem_append.1 hb with hb|hb
    · rcases hh' b (by simpa using hb)with h|h
      · exact(hdN b h).1
      · omega
    · rcases List.mem_append.1 hb with hb|hb
      · exact hbg b hb
      · have:=(hv1 b (by simpa using hb)).1;omega
structure BenEnd(w:World)(n:Nat)(l':List CV)(B1:World->World->Prop)(B2:World->World->World->Prop)(wr w2 w3:World)(hdr:Value)(xs:List Value)(bs:List Nat)(w':World):Prop where
  step:Step none w wr
  b1:B1 wr w2
  b2:B2 wr w2 w3
  row:rowAt w' 67 5 hdr n xs
  inn:Inner w' l' xs bs
  nd:((tM hdr).toList++bs).Nodup
  ge:∀b∈(tM hdr).toList++bs,w.heap.size+3<=b∧b<wr.heap.size
  os:w'.os=w3.os
  tape:w'.tape=w3.tape
  output:w'.output=w3.output
  size:w'.heap.size=w3.heap.size
  drawn:w3.drawn<=w'.drawn
  same:∀b,b<w.heap.size∨wr.heap.size<=b->w'.heap[b]? =w3.heap[b]?
theorem Ben.fin{w wr w2 w3:World}{l:List CV}{hdr:Value}{xs:List Value}{bs bs1 bs2:List Nat}{sb kk gv cv o:Nat}{x:CV}{y:Value}{B1:World->World->Prop}{B2:World->World->World->Prop}(hB:Ben w l l.length wr hdr xs bs)(hb1:B1 wr.drew w2)
    (hb2:B2 wr.drew w2 w3) (hsb:sb<w.heap.size) (h3:wr.heap.size<=w3.heap.size) (k3:∀b,b<wr.heap.size->b≠sb->w3.heap[b]? =wr.heap[b]?) (hm:0<x.m) (ho:o<8) (hy1:y.oneCell'=true)
    (hbs:bs=bs1++((tM (.slice (some ⟨gv,0,none⟩) x.m cv)).toList++bs2)) (hrv:rowAt wr 75 8 (.slice (some ⟨gv,0,none⟩) x.m cv) x.m x.ys)
    (hnext:∀(w':World)(ys':List Value),(∀b∈bs1++bs2,w'.heap[b]? =wr.heap[b]?)->rowAt w' 75 8 (.slice (some ⟨gv,0,none⟩) x.m cv) x.m ys'->Inner w' (l.set kk { x with ys:=ys' }) xs bs):
    BenEnd w l.length (l.set kk { x with ys:=x.ys.set o y }) B1 B2 wr.drew w2 w3 hdr xs bs ((w3.setCell ⟨gv,o,none⟩ y).setCell ⟨w.heap.size+1,0,none⟩ hdr):=by
  have hown:=own0_at (hrv.wj hm) hm
  rw [hown]at hbs
  have hgm:gv∈bs:=by rw [hbs];simp
  have hge:∀b∈bs,w.heap.size+3<=b:=λb hb=>hB.ge b (List.mem_append.2 (.inr hb))
  have hlt:∀b∈bs,b<wr.heap.size:=hB.inn.lt
  have hgv:=hge gv hgm
  have hN:=(Array.getElem?_eq_some_iff.1 hB.out).1
  have stay:∀b,b≠gv->b≠w.heap.size+1->((w3.setCell ⟨gv,o,none⟩ y).setCell ⟨w.heap.size+1,0,none⟩ hdr).heap[b]? =w3.heap[b]? :=λb h1 h2=>by
    rw [Go.Deep.blk_setCell_other _ _ _ _ h2,Go.Deep.blk_setCell_other _ _ _ _ h1]
  have hnd:=(List.nodup_append.1 hB.nd).2.1
  refine⟨hB.step.trans (Step.drew _),hb1,hb2,?_,?_,hB.nd,?_,rfl,rfl,rfl,?_,EB _,?_⟩
  · refine hB.row.j0 λb hb=>?_
    obtain⟨h1,h2,h3⟩:=hB.hdr_ge hb
    rw [stay b (λe=>h3 (e▸hgm)) (by omega),k3 b h2 (by omega)]
  · refine hnext _ _ (λb hb=>?_) ?_
    · have hbb:b∈bs:=by
        rw [hbs]
        rcases List.mem_append.1 hb with hb|hb<;>simp [hb]
      have hne:b≠gv:=λe=>by
        subst e
        rw [hbs]at hnd
        obtain⟨-,h1,h2⟩:=List.nodup_append.1 hnd
        rcases List.mem_append.1 hb with hb|hb
        · exact h2 b hb b (by simp) rfl
        · exact(List.nodup_append.1 h1).2.2 b (by simp) b hb rfl
      have:=hge b hbb
      rw [stay b hne (by omega),k3 b (hlt b hbb) (by omega)]
    · obtain⟨cur,h1,h2,h4,h5,h6⟩:=row_heap (hrv.wj hm) hm (by decide)
      have hyl:=hrv.len
      have e1:w3.heap[gv]? =some (.cells cur 75 (0,0)):=by rw [k3 gv (hlt gv hgm) (by omega),h1]
      have e2:((w3.setCell ⟨gv,o,none⟩ y).setCell ⟨w.heap.size+1,0,none⟩ hdr).heap[gv]? =some (.cells (cur.setIfInBounds o y) 75 (0,0)):=by
        rw [Go.Deep.blk_setCell_other _ _ _ _ (by simp only;omega)]
        exact setCell_blk e1
      refine .inl ⟨by simpa using hyl,.inr ⟨gv,cv,_,(0,0),rfl,.inl rfl,e2,h5,h6,by simpa using h2.symm,?_⟩⟩
      rw [<-h4,Array.toList_setIfInBounds,List.take_set]
  · intro b hb
    refine⟨hB.ge b hb,?_⟩
    rcases List.mem_append.1 hb with hb|hb
    · exact(hB.hdr_ge (by simpa using hb)).2.1
    · exact hlt b hb
  · simp [World.setCell]
  · intro b hb
    have h1:=hlt gv hgm
    have h2:wr.drew.heap.size=wr.heap.size:=rfl
    exact stay b (by omega) (by omega)
theorem BenEnd.drew{w:World}{n:Nat}{l':List CV}{B1:World->World->Prop}{B2:World->World->World->Prop}{wr w2 w3:World}{hdr:Value}{xs:List Value}{bs:List Nat}{w':World}(h:BenEnd w n l' B1 B2 wr w2 w3 hdr xs bs w'):BenEnd w n l' B1 B2 wr w2 w3 hdr xs bs w'.drew:=
  ⟨h.step,h.b1,h.b2,h.row.j0 λ_ _=>rfl,h.inn.j0 λ_ _=>rfl,h.nd,h.ge,h.os,h.tape,h.output,h.size,Nat.le_succ_of_le h.drawn,h.same⟩
end Go.Dw
namespace Go.Proofs
open Go.RowKit Go.Lib Go.Dw
set_option maxHeartbeats 8000000 in
set_option maxRecDepth 1000000 in
theorem bent_walk(S:tG)(sb:Nat)(ad:Option Addr)(l:List CV)(c:Nat)(w:World)(hl:l.length<=1000)(hsb:sb<w.heap.size)(himm:∀p v,S p=some v->w.cell? p=some v)
    (hok:∀(k:Nat)x,l[k]? =some x->CVOk S x∧∃b o,ad=some ⟨b,o,none⟩∧∀(j:Nat)v,x.vs[j]? =some v->S ⟨b,o+k*5+j,none⟩=some v)
    {kk:Nat} {x:CV} (hx:l[kk]? =some x) (hm:0<x.m) {t:Int} (hy:x.ys[1]? =some (.int .i64 t)) {j:Int} {o:Nat} {y:Value} (hj:(j=1∧o=0∧y= .int .i64 t)∨(j=2∧o=4∧y= .int .i64 1048577)) {B1:World->World->Prop} {B2:World->World->World->Prop}
    (hA1:∀w1,Step none w w1->Calls Tryz.prog 29 #[.pointer (some ⟨sb,0,none⟩),.int .i64 l.length] w1 λe w2=>e= .returned (.int .i64 kk)∧B1 w1 w2)
    (hK1:∀w1 w2,B1 w1 w2->w1.heap.size<=w2.heap.size∧∀b,b<w1.heap.size->b≠sb->w2.heap[b]? =w1.heap[b]?)
    (hA2:∀w1 w2,Step none w w1->B1 w1 w2->Calls Tryz.prog 29 #[.pointer (some ⟨sb,0,none⟩),.int .i64 5] w2 λe w3=>e= .returned (.int .i64 j)∧B2 w1 w2 w3)
    (hK2:∀w1 w2 w3,B2 w1 w2 w3->w2.heap.size<=w3.heap.size∧∀b,b<w2.heap.size->b≠sb->w3.heap[b]? =w2.heap[b]?):
    Calls Tryz.prog 12 #[.pointer (some ⟨sb,0,none⟩),.agg #[.slice ad l.length c]] w λe w'=>∃wr w2 w3 hdr xs bs,e= .returned (.agg #[hdr])∧BenEnd w l.length (l.set kk { x with ys:=x.ys.set o y }) B1 B2 wr w2 w3 hdr xs bs w':=by
  have hkk:kk<l.length:=(List.getElem?_eq_some_iff.1 hx).1
  obtain⟨i8,z8,g0,g1,g2,g3,g4⟩:=info75
  obtain⟨i5,z5,f0,f1,f2,f3,f4⟩:=info67
  go_enter Tryz.func12,Tryz.ntmps12
  go_wp2
  go_loopw [12] (λi wr=>∃(k:Nat)(hdr:Value)(xs:List Value)(bs:List Nat),k<=l.length∧i= .int .i64 (k:Int)∧Ben w l k wr hdr xs bs) (λi _=>l.length-(RowKit.intOf i).toNat)
  case atStart=>
    refine⟨0,.slice none 0 0,[],[],Nat.zero_le _,rfl,?_,?_,?_,?_,?_,?_,?_⟩
    · exact((Step.alloc _ _).trans (Step.alloc _ _)).trans (Step.alloc _ _)
    · rw [show w.heap.size+2=((w.alloc (.cells #[.slice ad l.length c] 37)).alloc (.cells #[.slice none 0 0] 37)).heap.size by simp]
      exact Go.Deep.blk_alloc_new _ _
    · rw [show w.heap.size+1=(w.alloc (.cells #[.slice ad l.length c] 37)).heap.size by simp]
      exact old_block (Go.Deep.blk_alloc_new _ _)
    · exact .inr ⟨rfl,rfl,_,rfl⟩
    · exact .nil
    · simp [tM]
    · simp [tM]
  case round=>
    obtain⟨k,hdr,xs,bs,hk,rfl,hB⟩:=hrel
    by_cases hlt:k<l.length
    · clear hA1 hK1 hA2 hK2 hx hy hm hj
      rename_i x00
      clear x00
      obtain⟨x,hx⟩:∃x,l[k]? =some x:=⟨l[k],by simp [hlt]⟩
      obtain⟨hxo,b,o,rfl,hc⟩:=hok k x hx
      have hcell:∀(j:Nat)v,x.vs[j]? =some v->wr.cell? ⟨b,o+k*5+j,none⟩=some v:=λj v hv=>by
        have h1:=himm _ _ (hc j v hv)
        have h2:=wF h1
        simp only [World.cell?,hB.step.block _ h2 (by simp)]
        exact h1
      have c0:=hcell 0 _ rfl
      have c1:=hcell 1 _ rfl
      have c2:=hcell 2 _ rfl
      have c3:=hcell 3 _ rfl
      have c4:=hcell 4 _ rfl
      simp only [Nat.add_zero]at c0
      go_wp2_with (at_builtin;refine wp_app _ rfl _ _ 65 rfl rfl rfl Tryz.underlying65 g0 g1 g2 g3 g4 (by decide) (n:=0) (xs:=[]) (news:=x.ys) ?_ hxo.len hxo.ones ?_ ?_ ?_)
      · exact .inr ⟨rfl,rfl,_,rfl⟩
      · intro hm
        obtain⟨b',hb',hS⟩:=hxo.cell hm
        refine⟨b',hb',λj u hu=>?_⟩
        have h1:=himm _ _ (hS j u hu)
        have h2:=wF h1
        have h3:((wr.alloc (.cells #[.string x.s0,.string x.s1,.string x.s2,.string x.s3,.slice x.ad x.m x.cc] 67)).alloc (.cells #[] 75)).heap[(b'.add j).block]? =w.heap[(b'.add j).block]? :=by
          have:=hB.step.size
          rw [Go.Deep.blk_alloc_lt _ _ _ (by simp;omega),Go.Deep.blk_alloc_lt _ _ _ (by omega),hB.step.block _ h2 (by simp)]
        simp only [World.cell?,h3]
        exact h1
      · have:=hxo.le;omega
      intro v1 W1 hr1 hs1 ho1 hg1
      have hP7:W1.heap[wr.heap.size]? =some (.cells #[.string x.s0,.string x.s1,.string x.s2,.string x.s3,.slice x.ad x.m x.cc] 67 (0,0)):=by
        rw [hs1.block _ (by simp;omega) (by simp [tM])]
        exact old_block (heap_alloc_new wr _)
      have hP5:W1.heap[w.heap.size+1+1]? =some (.cells #[hdr] 37 (0,0)):=by
        have hh:=hB.out
        rw [hs1.block _ (by have:=(Array.getElem?_eq_some_iff.1 hh).1;simp;omega) (by simp [tM])]
        exact old_block (old_block hh)
      have d0:W1.cell? ⟨wr.heap.size,0,none⟩=some (.string x.s0):=by simp [World.cell?,hP7]
      have d1:W1.cell? ⟨wr.heap.size,1,none⟩=some (.string x.s1):=by simp [World.cell?,hP7]
      have d2:W1.cell? ⟨wr.heap.size,2,none⟩=some (.string x.s2):=by simp [World.cell?,hP7]
      have d3:W1.cell? ⟨wr.heap.size,3,none⟩=some (.string x.s3):=by simp [World.cell?,hP7]
      have d4:W1.cell? ⟨wr.heap.size,4,none⟩=some (.slice x.ad x.m x.cc):=by simp [World.cell?,hP7]
      have d5:W1.frozen? ⟨wr.heap.size,4,none⟩=false:=by simp [World.frozen?,hP7]
      have e0:W1.cell? ⟨w.heap.size+1+1,0,none⟩=some hdr:=by simp [World.cell?,hP5]
      have e1:W1.frozen? ⟨w.heap.size+1+1,0,none⟩=false:=by simp [World.frozen?,hP5]
      obtain⟨a1,q1,rfl,hq1⟩:=hr1.hdr
      obtain⟨a2,q2,rfl,hq2⟩:=hB.row.hdr
      go_wp2_with (at_builtin;refine wp_app _ rfl _ _ 35 rfl rfl rfl Tryz.underlying35 f0 f1 f2 f3 f4 (by decide) (n:=k) (xs:=xs) (news:=[.string x.s0,.string x.s1,.string x.s2,.string x.s3,.slice a1 (0+x.m) q1]) ?_ ?_ ?_ ?_ ?_ ?_)
      · refine hB.row.j0 λg hg=>?_
        obtain⟨k1,k2, -⟩:=hB.hdr_ge hg
        have z1:=hs1.size
        simp only [Go.Deep.nblk_alloc]at z1
        rw [Go.Deep.blk_alloc_lt _ _ _ (by simp [World.setCell];omega),Go.Deep.blk_setCell_other _ _ _ _ (by simp;omega),hs1.block g (by simp;omega) (by simp [tM]),Go.Deep.blk_alloc_lt _ _ g (by simp;omega),Go.Deep.blk_alloc_lt _ _ g k2]
      · rfl
      · intro u hu
        simp only [List.mem_cons,List.mem_nil_iff,or_false]at hu
        rcases hu with rfl|rfl|rfl|rfl|rfl<;>rfl
      · intro _
        refine⟨_,rfl,λj u hu=>?_⟩
        rw [uC,EJ]
        have hz:(W1.setCell ⟨wr.heap.size,4,none⟩ (.slice a1 x.m q1)).heap.size=W1.heap.size:=by simp [World.setCell]
        have hn:=Go.Deep.blk_alloc_new (W1.setCell ⟨wr.heap.size,4,none⟩ (.slice a1 x.m q1)) (.cells #[.string x.s0,.string x.s1,.string x.s2,.string x.s3,.slice a1 x.m q1] 67)
        rw [hz]at hn
        simp only [World.cell?,hn]
        simpa using hu
      · omega
      intro v2 W2 hr2 hs2 ho2 hg2
      have hP6:W2.heap[w.heap.size+1+1]? =some (.cells #[.slice a2 k q2] 37 (0,0)):=by
        have h1:=(Array.getElem?_eq_some_iff.1 hP5).1
        have h2:=hB.step.size
        have h3:=(Array.getElem?_eq_some_iff.1 hB.out).1
        rw [hs2.block _ (by simp [World.setCell];omega) (λe=>by have:=(hB.hdr_ge e.symm).1;omega),Go.Deep.blk_alloc_lt _ _ _ (by simp [World.setCell];omega),Go.Deep.blk_setCell_other _ _ _ _ (by simp;omega)]
        exact hP5
      have r0:W2.cell? ⟨w.heap.size+1+1,0,none⟩=some (.slice a2 k q2):=by simp [World.cell?,hP6]
      have r1:W2.frozen? ⟨w.heap.size+1+1,0,none⟩=false:=by simp [World.frozen?,hP6]
      obtain⟨a3,q3,rfl,hq3⟩:=hr2.hdr
      go_wp2
      go_roundw
      case rel=>
        exact⟨k+1,_,_,_,by omega,by go_num,Ben.next hB hx rfl hs1 (by simpa using hr1) hg1 hs2 hr2 hg2⟩
      case measure=>
        simp [RowKit.intOf]
        omega
    · obtain rfl:k=l.length:=by omega
      obtain⟨g,cap,rfl⟩:∃g cap,hdr= .slice (some ⟨g,0,none⟩) l.length cap:=vk (hB.row.wj (by omega)) (by omega)
      have hn0:¬((l.length:Int)=0):=by omega
      have hP5:wr.heap[w.heap.size+1+1]? =some (.cells #[.slice (some ⟨g,0,none⟩) l.length cap] 37 (0,0)):=hB.out
      have e0:wr.cell? ⟨w.heap.size+1+1,0,none⟩=some (.slice (some ⟨g,0,none⟩) l.length cap):=by simp [World.cell?,hP5]
      have hN2:=(Array.getElem?_eq_some_iff.1 hP5).1
      have hld:∀W w2:World,W.heap=wr.heap->B1 W w2->w2.cell? ⟨w.heap.size+1+1,0,none⟩=some (.slice (some ⟨g,0,none⟩) l.length cap):=λW w2 hW hb=>by
        obtain⟨-,h2⟩:=hK1 _ _ hb
        rw [<-e0]
        simp only [World.cell?]
        rw [h2 _ (by rw [hW];exact hN2) (by omega),hW]
      have hi0:(0:Int)<=(kk:Int):=by omega
      have hi1:(kk:Int)<(l.length:Int):=by omega
      go_wp2
      go_region_with (go_at_call 29;refine(hA1 _ (hB.step.trans (Step.drew _))).mono ?_;rintro e w2 ⟨rfl,hb1⟩;have e9:=hld wr.drew _ rfl hb1)
      all_goals (
        obtain⟨h11,h12⟩:=hK1 _ _ hb1
        go_wp2_with (go_at_call 29;refine(hA2 _ _ (hB.step.trans (Step.drew _)) hb1).mono ?_)
        rintro e w3 ⟨rfl,hb2⟩
        obtain⟨h21,h22⟩:=hK2 _ _ _ hb2
        have hinn:=hB.inn
        rw [List.take_length]at hinn
        obtain⟨v,bs1,bs2,hbs,hxv,hrv,hnext⟩:=hinn.get hx
        have hgo:=(hB.row.wj (by omega)).cells rfl _ _ hxv
        obtain⟨gv,cv,rfl⟩:∃gv cv,v= .slice (some ⟨gv,0,none⟩) x.m cv:=vk (hrv.wj hm) hm
        have hgy:=(hrv.wj hm).cells rfl _ _ hy
        have hyl:=hrv.len
        have ho8:o<8:=by omega
        obtain⟨y0,hy0⟩:∃y0,x.ys[o]? =some y0:=⟨x.ys[o]'(by omega),List.getElem?_eq_getElem _⟩
        have hgz:=(hrv.wj hm).cells rfl _ _ hy0
        rw [uC,EJ]at hgo hgy hgz
        have hown:tM (.slice (some ⟨gv,0,none⟩) x.m cv)=some gv:=own0_at (hrv.wj hm) hm
        have hgown:tM (.slice (some ⟨g,0,none⟩) l.length cap)=some g:=own0_at (hB.row.wj (by omega)) (by omega)
        have hgm:gv∈bs:=by rw [hbs,hown];simp
        have k3:∀b,b<wr.heap.size->b≠sb->w3.heap[b]? =wr.heap[b]? :=λb hb hne=>by
          have h1:b<wr.drew.heap.size:=hb
          rw [h22 b (by omega) hne,h12 b h1 hne];rfl
        have c3:∀(b o:Nat)(u:Value),w.heap.size<=b->wr.cell? ⟨b,o,none⟩=some u->w3.cell? ⟨b,o,none⟩=some u:=λb o u hb hc=>by
          rw [<-hc]
          simp only [World.cell?]
          rw [k3 b (wF hc) (by omega)]
        have hg1:=hB.ge g (by simp [hgown])
        have hg2:=hB.ge gv (by simp [hgm])
        have z0:=c3 _ _ _ (by omega) e0
        have z1:=c3 _ _ _ (by omega) hgo
        have z2:=c3 _ _ _ (by omega) hgy
        have z3:=c3 _ _ _ (by omega) hgz
        have z4:w3.frozen? ⟨gv,o,none⟩=false:=by
          obtain⟨cur,hcur, -⟩:=row_heap (hrv.wj hm) hm (by decide)
          simp only [World.frozen?,k3 gv (hinn.lt gv hgm) (by omega),hcur]
          simp
        have hR:w3.heap[w.heap.size+1]? =some (.cells #[.slice none 0 0] 37 (0,0)):=by
          rw [k3 _ (by omega) (by omega)];exact hB.res
        have z5:w3.cell? ⟨w.heap.size+1,0,none⟩=some (.slice none 0 0):=by simp [World.cell?,hR]
        have z6:w3.frozen? ⟨w.heap.size+1,0,none⟩=false:=by simp [World.frozen?,hR]
        have hm0:(0:Int)<(x.m:Int):=by omega
        have hgne:¬(gv=g):=λe=>(hB.hdr_ge hgown).2.2 (e▸hgm)
        have hga:¬(gv=w.heap.size+1+1):=by omega
        have hgb:¬(gv=w.heap.size+1):=by omega
        have z77:(w3.setCell ⟨gv,o,none⟩ y).heap[w.heap.size+1+1]? =some (.cells #[.slice (some ⟨g,0,none⟩) l.length cap] 37 (0,0)):=by
          rw [Go.Deep.blk_setCell_other _ _ _ _ (λe=>hga e.symm),k3 _ hN2 (by omega)]
          exact hP5
        have z7:(w3.setCell ⟨gv,o,none⟩ y).cell? ⟨w.heap.size+1+1,0,none⟩=some (.slice (some ⟨g,0,none⟩) l.length cap):=by simp [World.cell?,z77]
        have z8:(w3.setCell ⟨gv,o,none⟩ y).heap[w.heap.size+1]? =some (.cells #[.slice none 0 0] 37 (0,0)):=by
          rw [Go.Deep.blk_setCell_other _ _ _ _ (λe=>hgb e.symm)]
          exact hR
        have z9:(w3.setCell ⟨gv,o,none⟩ y).cell? ⟨w.heap.size+1,0,none⟩=some (.slice none 0 0):=by simp [World.cell?,z8]
        have z10:(w3.setCell ⟨gv,o,none⟩ y).frozen? ⟨w.heap.size+1,0,none⟩=false:=by simp [World.frozen?,z8]
        have z11:((w3.setCell ⟨gv,o,none⟩ y).setCell ⟨w.heap.size+1,0,none⟩ (.slice (some ⟨g,0,none⟩) l.length cap)).cell? ⟨w.heap.size+1,0,none⟩=some (.slice (some ⟨g,0,none⟩) l.length cap):=by
          have:=setCell_blk (o:=0) (v:= .slice (some ⟨g,0,none⟩) l.length cap) z8
          simp only [World.cell?]
          rw [show((w3.setCell ⟨gv,o,none⟩ y).setCell ⟨w.heap.size+1,0,none⟩ (.slice (some ⟨g,0,none⟩) l.length cap)).heap[w.heap.size+1]? =_ from this]
          rfl
        have hy1:y.oneCell'=true:=by rcases hj with⟨-, -,rfl⟩|⟨-, -,rfl⟩<;>rfl
        have hfin:=Ben.fin (o:=o) (y:=y) hB hb1 hb2 hsb (EO h11 h21) k3 hm ho8 hy1 hbs hrv hnext
        rcases hj with⟨rfl,rfl,rfl⟩|⟨rfl,rfl,rfl⟩
        · go_wp2
          go_region
          go_wp2
          refine bodyPost_ret (v:= .agg #[.slice (some ⟨g,0,none⟩) l.length cap]) (by simp [results,Tryz.results12,go_sem,z11]) rfl ?_
          exact⟨_,_,_,_,_,_,rfl,hfin.drew⟩
        · go_wp2
          refine bodyPost_ret (v:= .agg #[.slice (some ⟨g,0,none⟩) l.length cap]) (by simp [results,Tryz.results12,go_sem,z11]) rfl ?_
          exact⟨_,_,_,_,_,_,rfl,hfin⟩)
end Go.Proofs
