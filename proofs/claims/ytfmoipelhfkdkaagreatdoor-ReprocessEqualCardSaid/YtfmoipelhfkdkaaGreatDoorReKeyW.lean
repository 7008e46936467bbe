
import Derived.Test.YtfmoipelhfkdkaaGreatDoorShelfR
import Derived.WalkKit
import Derived.BigCall
import Derived.Test.YtfmoipelhfkdkaaGreatDoorDwArg
import Derived.Lib.ItoaLen
open List renaming flatMap_append->Hw, flatMap_cons->HQ, length_append->Ec, length_cons->D4, mem_of_getElem?->D6, take_add_one->Hd

namespace Go.Proofs
open Go.RowKit Go.Lib
namespace Key
structure P9 where
  a:ByteArray
  b:ByteArray
  c:ByteArray
  d:ByteArray
  t:Int
  e:Int
  l:Int
  m:Int
  p:Int
def P9.vs(x:P9):List Value:=[.string x.a,.string x.b,.string x.c,.string x.d,.int .i64 x.t,.int .i64 x.e,.int .i64 x.l,.int .i64 x.m,.int .i64 x.p]
def P9.ns(x:P9):List Int:=[x.t,x.e,x.l,x.m,x.p]
def P9.src(x:P9):List UInt8:=Lib.join [x.a.data.toList,x.b.data.toList,x.c.data.toList,x.d.data.toList] [46]
def num(n:Int):List UInt8:=32::Lib.itoa n
def P9.key(x:P9):List UInt8:=x.src++x.ns.flatMap num++[10]
def P9.ok(x:P9):Prop:=(x.a.size<=1000∧x.b.size<=1000∧x.c.size<=1000∧x.d.size<=1000)∧∀n∈x.ns, -9223372036854775808<=n∧n<=9223372036854775807
theorem builderAt_below{T e:TypeId}{B b:Nat}{p:Value}{bs:List Value}{W W':World}(h:BuilderAtF T e B b p bs W)(hb:Below W.heap.size W W'):BuilderAtF T e B b p bs W':=by
  have hlt:=h.lt
  obtain⟨h1,v,hv,ho,hn⟩:=h
  exact⟨h1,v,by rw [hb.block b hlt];exact hv,ho.kept (row:=none) ⟨hb.os,hb.tape,hb.output,hb.size,fun k hk _=>hb.block k hk⟩ (Classical.em _),hn⟩
theorem isBuilder_below{T e:TypeId}{B b:Nat}{bs:List Value}{W W':World}(h:IsBuilderF T e B b bs W)(hb:Below W.heap.size W W'):IsBuilderF T e B b bs W':=by
  rcases h with h|h
  · exact .inl (builderAt_below h hb)
  · exact .inr (builderAt_below h hb)
theorem ws(B b:Nat)(bs:List Value)(s:ByteArray)(w:World)(h:Lib.IsBuilderF 160 5 B b bs w)(hlen:bs.length+s.size<=140737488355328)(hBw:B<=w.heap.size):
    Calls Tryz.prog 74 #[.pointer (some ⟨b,0,none⟩),.string s] w fun e w'=>e= .returned (.tuple #[.int .i64 s.size,.nilIface])∧(Lib.BuilderAtF 160 5 B b (.pointer (some ⟨b,0,none⟩)) (bs++Lib.strCells s) w'∧Below B w w'∧Lib.OthersKept 5 (some b) w w'):=Any.Builder_WriteString_k Tryz.lays166 Tryz.Builder_Extra_156 B b bs s w h hlen hBw
theorem wb(B b:Nat)(bs:List Value)(c:Int)(w:World)(h:Lib.IsBuilderF 160 5 B b bs w)(hlen:bs.length+1<=140737488355328)(hBw:B<=w.heap.size):
    Calls Tryz.prog 77 #[.pointer (some ⟨b,0,none⟩),.int .u8 c] w fun e w'=>e= .returned .nilIface∧(Lib.BuilderAtF 160 5 B b (.pointer (some ⟨b,0,none⟩)) (bs++[.int .u8 c]) w'∧Below B w w'∧Lib.OthersKept 5 (some b) w w'):=Any.Builder_WriteByte_k Tryz.lays167 Tryz.Builder_Extra_167 B b bs c w h hlen hBw
theorem str(B b:Nat)(l:List UInt8)(w:World)(h:Lib.IsBuilderF 160 5 B b (Lib.byteCells l) w)(hBw:B<=w.heap.size):
    Calls Tryz.prog 78 #[.pointer (some ⟨b,0,none⟩)] w fun e w'=>e= .returned (.string ⟨l.toArray⟩)∧(Lib.IsBuilderF 160 5 B b (Lib.byteCells l) w'∧Below B w w'∧Lib.OthersKept 5 (some b) w w'):=Any.Builder_String_any_k Tryz.lays169 Tryz.Builder_Extra_169 B b l w h hBw
theorem jn(bk o c:Nat)(xs:List ByteArray)(sep:ByteArray)(w:World)(hcells:∀(j:Nat)x,xs[j]? =some x->w.cell? ⟨bk,o+j,none⟩=some (.string x))
    (hbk:bk<w.heap.size) (hN:xs.length<=140737488355328) (hcap:xs.length<=c) (hlen:(Lib.join (xs.map (·.data.toList)) sep.data.toList).length<=140737488355328):
    Calls Tryz.prog 75 #[.slice (some ⟨bk,o,none⟩) xs.length c,.string sep] w fun e w'=>e= .returned (.string ⟨(Lib.join (xs.map (·.data.toList)) sep.data.toList).toArray⟩)∧Below w.heap.size w w':=Any.strings_Join Tryz.lays156 Tryz.Builder_Extra_156 bk o c xs sep w hcells hbk hN hcap hlen
theorem it (n : Int) (h0 : -9223372036854775808 ≤ n) (h1 : n ≤ 9223372036854775807) (w : World) (htab : Lib.TabIs Tryz.prog w "internal/strconv.uint64pow10" .u64 Lib.pow10Tab) :
    Calls Tryz.prog 76 #[.int .i64 n] w fun e w'=>e= .returned (.string ⟨(Lib.itoa n).toArray⟩)∧Below w.heap.size w w':=by
  refine(Any.strconv_Itoa Tryz.laysM171 n h0 h1 w htab).mono ?_
  rintro e w' ⟨rfl,k,os,rfl⟩
  exact⟨rfl,⟨rfl,rfl,rfl,by simp [Sort.grow],fun b hb=>by simp [Sort.grow,Array.getElem?_append_left,hb]⟩⟩
theorem tab_below {w W : World} (htab : Lib.TabIs Tryz.prog w "internal/strconv.uint64pow10" .u64 Lib.pow10Tab) (hB : Below w.heap.size w W) : Lib.TabIs Tryz.prog W "internal/strconv.uint64pow10" .u64 Lib.pow10Tab := by
  unfold Lib.TabIs World.var? at*
  cases hg : Tryz.prog.globalNamed "internal/strconv.uint64pow10" with
  |none=>rw [hg]at htab;cases htab
  |some g=>
    rw [hg]at htab
    simp only [Option.bind_some]at htab⊢
    cases ho:w.heap[g]? with
    |none=>rw [ho]at htab;cases htab
    |some x=>
      rw [hB.block g (Array.getElem?_eq_some_iff.1 ho).1,ho]
      rw [ho]at htab
      exact htab
theorem src_len(x:P9)(h:x.ok):x.src.length<=4003:=by
  obtain⟨⟨h1,h2,h3,h4⟩, -⟩:=h
  simp [P9.src,Lib.join,List.intercalate,List.intersperse]
  omega
theorem num_len(n:Int)(h: -9223372036854775808<=n∧n<=9223372036854775807):(num n).length<=22:=by
  have:=Lib.itoa_length_le n h.1 h.2
  simp only [num,D4]
  omega
theorem top_cell{w:World}{cs:Array Value}{T:TypeId}{n j:Nat}{v:Value}(hn:w.heap.size=n)(h:cs[j]? =some v):(w.alloc (.cells cs T)).cell? ⟨n,0+j,none⟩=some v:=by
  subst hn
  rw [Nat.zero_add,Lib.cell_of_heap (heap_alloc_new w _)]
  exact h
theorem old_block{w:World}{o o':Obj}{n:Nat}(h:w.heap[n]? =some o'):(w.alloc o).heap[n]? =some o':=by
  rw [Lib.alloc_old w o n (Array.getElem?_eq_some_iff.1 h).1]
  exact h
theorem cat_eq(n:Int):((⟨#[32]⟩:ByteArray)++⟨(Lib.itoa n).toArray⟩)=⟨(num n).toArray⟩:=by
  apply ByteArray.ext
  rw [ByteArray.data_append]
  simp [num]
theorem num_lens:∀(l:List Int),(∀n∈l, -9223372036854775808<=n∧n<=9223372036854775807)->(l.flatMap num).length<=l.length*22
  | [],_=>by simp
  |n::l,h=>by
    have h1:=num_len n (h n (by simp))
    have h2:=num_lens l fun m hm=>h m (by simp [hm])
    simp only [HQ,Ec,D4]
    omega
theorem key_len(x:P9)(h:x.ok):x.key.length<=4200:=by
  have h1:=src_len x h
  have h2:=num_lens x.ns h.2
  simp only [P9.key,Ec,D4,List.length_nil]
  have h3:x.ns.length=5:=rfl
  omega
theorem acc_len(l:List P9)(h:∀x∈l,x.ok):∀k,((l.take k).flatMap P9.key).length<=k*4200:=by
  induction l with
  |nil=>intro k;simp
  |cons x l ih=>
    intro k
    cases k with
    |zero=>simp
    |succ k=>
      have h1:=key_len x (h x (by simp))
      have h2:=ih (fun y hy=>h y (by simp [hy])) k
      simp only [List.take_succ_cons,HQ,Ec]
      omega
set_option maxHeartbeats 8000000 in
set_option maxRecDepth 1000000 in
theorem walk(ad:Option Addr)(c:Nat)(l:List P9)(w:World)(hl:l.length<=1000)(hok:∀x∈l,x.ok)
    (hrow:∀(j:Nat)x,l[j]? =some x->∃b o,ad=some ⟨b,o,none⟩∧∀(k:Nat)v,x.vs[k]? =some v->w.cell? ⟨b,o+j*9+k,none⟩=some v)
    (htab : Lib.TabIs Tryz.prog w "internal/strconv.uint64pow10" .u64 Lib.pow10Tab) :
    Calls Tryz.prog 41 #[.slice ad l.length c] w fun e w'=>e= .returned (.string ⟨(l.flatMap P9.key).toArray⟩)∧Below w.heap.size w w':=by
  go_enter Tryz.func41,Tryz.ntmps41
  go_wp2
  go_loopw [11] (fun i wr=>∃k:Nat,k<=l.length∧i= .int .i64 (k:Int)∧Lib.IsBuilderF 160 5 w.heap.size w.heap.size (Lib.byteCells ((l.take k).flatMap P9.key)) wr∧Below w.heap.size w wr∧w.heap.size<wr.heap.size) (fun i _=>l.length-(intOf i).toNat)
  case atStart=>
    exact⟨0,Nat.zero_le _,rfl,Lib.IsBuilderF.of (Lib.fresh_isBuilder 160 5 w),(Below.refl _ w).alloc (Nat.le_refl _) _,by simp⟩
  case round=>
    obtain⟨k,hk,rfl,hI,hbw,hsz⟩:=hrel
    by_cases hlt:k<l.length
    · obtain⟨x,hx⟩:∃x,l[k]? =some x:=⟨l[k],by simp [hlt]⟩
      obtain⟨b,o,rfl,hc⟩:=hrow k x hx
      have hcell:∀(j:Nat)v,x.vs[j]? =some v->wr.cell? ⟨b,o+k*9+j,none⟩=some v:=fun j v hv=>(hbw.cell (p:=⟨b,o+k*9+j,none⟩) (Go.Dw.wA (hc j v hv))).trans (hc j v hv)
      have c0:=hcell 0 _ rfl
      have c1:=hcell 1 _ rfl
      have c2:=hcell 2 _ rfl
      have c3:=hcell 3 _ rfl
      have c4:=hcell 4 _ rfl
      have c5:=hcell 5 _ rfl
      have c6:=hcell 6 _ rfl
      have c7:=hcell 7 _ rfl
      have c8:=hcell 8 _ rfl
      simp only [Nat.add_zero]at c0
      have hxok:=hok x (D6 hx)
      have hsl:=src_len x hxok
      go_wp2_with (go_at_call 75;refine(jn _ _ _ [x.a,x.b,x.c,x.d] ⟨#[46]⟩ _ ?_ ?_ (by simp) (by simp) ?_).mono ?_)
      · intro j s hs
        match j,hs with
        |0,hs=>cases hs;exact top_cell (by simp) rfl
        |1,hs=>cases hs;exact top_cell (by simp) rfl
        |2,hs=>cases hs;exact top_cell (by simp) rfl
        |3,hs=>cases hs;exact top_cell (by simp) rfl
        |j+4,hs=>cases hs
      · simp
      · show x.src.length<=_
        omega
      rintro e W1 rfl hB1
      have hacc:((l.take k).flatMap P9.key).length<=k*4200:=acc_len l hok k
      have hP1:W1.heap[wr.heap.size]? =some (.cells x.vs.toArray 70 (0,0)):=by
        rw [hB1.block _ (by omega)]
        exact old_block (old_block (heap_alloc_new wr _))
      have hI1:=isBuilder_below (((hI.alloc _).alloc _).alloc _) (by simpa using hB1)
      have hbw1:Below w.heap.size w W1:=(((hbw.alloc hbw.size _).alloc (by have:=hbw.size;simp;omega) _).alloc (by have:=hbw.size;simp;omega) _).trans (hB1.mono (by omega))
      have hsz1:wr.heap.size<W1.heap.size:=(Array.getElem?_eq_some_iff.1 hP1).1
      clear hB1 hI
      go_wp2_with (go_at_call 74;refine(ws w.heap.size w.heap.size _ _ W1 hI1 ?_ (by omega)).mono ?_)
      · have h0:(⟨x.src.toArray⟩:ByteArray).size=x.src.length:=by simp [ByteArray.size]
        rw [Lib.byteCells_length]
        show _+(⟨x.src.toArray⟩:ByteArray).size<=_
        omega
      rintro e W2 ⟨rfl,hI2,hb2,ho2⟩
      replace hbw1:=hbw1.trans hb2
      have hP2:=ho2 _ _ hP1 (by simp;omega) (by intro c fz h;cases h)
      have hsz2:wr.heap.size<W2.heap.size:=(Array.getElem?_eq_some_iff.1 hP2).1
      clear hI1 hb2 ho2 hP1 hsz1
      have d4:W2.cell? ⟨wr.heap.size,4,none⟩=some (.int .i64 x.t):=by simp [World.cell?,hP2,P9.vs]
      have d5:W2.cell? ⟨wr.heap.size,5,none⟩=some (.int .i64 x.e):=by simp [World.cell?,hP2,P9.vs]
      have d6:W2.cell? ⟨wr.heap.size,6,none⟩=some (.int .i64 x.l):=by simp [World.cell?,hP2,P9.vs]
      have d7:W2.cell? ⟨wr.heap.size,7,none⟩=some (.int .i64 x.m):=by simp [World.cell?,hP2,P9.vs]
      have d8:W2.cell? ⟨wr.heap.size,8,none⟩=some (.int .i64 x.p):=by simp [World.cell?,hP2,P9.vs]
      replace hI2:Lib.BuilderAtF 160 5 w.heap.size w.heap.size (.pointer (some ⟨w.heap.size,0,none⟩)) (Lib.byteCells ((l.take k).flatMap P9.key++x.src)) W2:=by rw [Lib.byteCells_append];exact hI2
      go_wp2
      go_loopw [40] (fun j wq=>∃m:Nat,m<=5∧j= .int .i64 (m:Int)∧Lib.IsBuilderF 160 5 w.heap.size w.heap.size (Lib.byteCells ((l.take k).flatMap P9.key++x.src++(x.ns.take m).flatMap num)) wq∧Below w.heap.size w wq∧wq.heap[W2.heap.size]? =some (.cells (x.ns.map fun n=>Value.int .i64 n).toArray 3 (0,0))) (fun j _=>5-(intOf j).toNat)
      case atStart=>
        refine⟨0,by omega,rfl,.inr ?_,hbw1.alloc (by omega) _,heap_alloc_new W2 _⟩
        simpa using hI2.alloc _
      case round=>
        obtain⟨m,hm,rfl,hI,hbq,hR⟩:=hrel
        by_cases hm5:m<5
        · obtain⟨n,hn⟩:∃n,x.ns[m]? =some n:=⟨x.ns[m]'hm5,List.getElem?_eq_getElem hm5⟩
          have hnok:=hxok.2 n (D6 hn)
          have dn:wr.cell? ⟨W2.heap.size,m,none⟩=some (.int .i64 n):=by
            rw [Lib.cell_of_heap hR]
            simp [hn]
          have hlen:=num_lens (x.ns.take m) fun y hy=>hxok.2 y (List.mem_of_mem_take hy)
          have hnl:=num_len n hnok
          have hil:¬9223372036854775807<1+(itoa n).length:=by simp only [num,D4]at hnl;omega
          have hcat:((⟨#[32]⟩:ByteArray)++⟨(itoa n).toArray⟩)=⟨(num n).toArray⟩:=cat_eq n
          have htl:(x.ns.take m).length<=5:=by rw [List.length_take];exact Nat.le_trans (Nat.min_le_right _ _) (Nat.le_refl 5)
          go_wp2_with (go_at_call 76;refine(it n hnok.1 hnok.2 wr (tab_below htab hbq)).mono ?_)
          rintro e W3 ⟨rfl,hB3⟩
          have hI3:=isBuilder_below hI hB3
          have hR3:W3.heap[W2.heap.size]? =some (.cells (x.ns.map fun n=>Value.int .i64 n).toArray 3 (0,0)):=by
            rw [hB3.block _ (Array.getElem?_eq_some_iff.1 hR).1]
            exact hR
          have hbq3:=hbq.trans (hB3.mono hbq.size)
          go_wp2_with (go_at_call 74;refine(ws w.heap.size w.heap.size _ _ W3 hI3 ?_ hbq3.size).mono ?_)
          · rw [Lib.byteCells_length]
            have h0:(⟨(num n).toArray⟩:ByteArray).size=(num n).length:=by simp [ByteArray.size]
            rw [h0]
            simp only [Ec]
            omega
          rintro e W4 ⟨rfl,hI4,hb4,ho4⟩
          have hR4:=ho4 _ _ hR3 (by simp;omega) (by intro c fz h;cases h)
          go_wp2
          go_roundw
          case rel=>
            refine⟨m+1,by omega,by go_num,.inr ?_,hbq3.trans hb4,hR4⟩
            rw [Hd,hn]
            simpa [Hw,Lib.byteCells_append,Lib.strCells_eq]using hI4
          case measure=>
            simp [intOf]
            omega
        · obtain rfl:m=5:=by omega
          have htk:x.ns.take 5=x.ns:=rfl
          rw [htk]at hI
          have hlen:=num_lens x.ns hxok.2
          have hns5:x.ns.length=5:=rfl
          go_wp2_with (go_at_call 77;refine(wb w.heap.size w.heap.size _ 10 wr hI ?_ hbq.size).mono ?_)
          · rw [Lib.byteCells_length]
            simp only [Ec]
            omega
          rintro e W5 ⟨rfl,hI5,hb5, -⟩
          go_wp2
          go_roundw
          case rel=>
            refine⟨k+1,by omega,by go_num,.inr ?_,hbq.trans hb5,?_⟩
            · rw [Hd,hx]
              simpa [Hw,Lib.byteCells_append,P9.key,Lib.byteCells]using hI5
            · have h1:=(Array.getElem?_eq_some_iff.1 hR).1
              have h2:=hb5.size
              omega
          case measure=>
            simp [intOf]
            omega
    · obtain rfl:k=l.length:=by omega
      rw [List.take_length]at hI
      go_wp2_with (go_at_call 78;refine(str w.heap.size w.heap.size _ wr hI hbw.size).mono ?_)
      rintro e W1 ⟨rfl, -,hb1, -⟩
      go_wp2
      go_ret
      exact⟨rfl,hbw.trans hb1⟩
end Key
end Go.Proofs
