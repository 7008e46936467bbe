
import Derived.Test.YthadlbjoiidkjaaGreatDoorDwOk
import Derived.Test.YthadlbjoiidkjaaGreatDoorDwAtoi
import Derived.Test.YthadlbjoiidkjaaGreatDoorDwItoa
import Derived.Test.YthadlbjoiidkjaaGreatDoorDwSplit
import Derived.Lib.AtoiAllCases

namespace Go.Dw
open Go.Lib
theorem u4{u:Nat}(h:u<10):(UInt8.ofNat (48+u)).toNat=48+u:=by
 rw [UInt8.toNat_ofNat']
 omega
theorem qY{u:Nat}(h:u<10):decDigits u=[UInt8.ofNat (48+u)]:=by rw [decDigits,dif_pos h]
theorem sP{u:Nat}(h:¬u<10):decDigits u=decDigits (u / 10)++[UInt8.ofNat (48+u%10)]:=by rw [decDigits,dif_neg h]
theorem tg:∀(u:Nat),∀c∈decDigits u,48<=c.toNat∧c.toNat<=57:=by
 intro u
 induction u using Nat.strongRecOn with
 |_ u ih=>
  by_cases h:u<10
  ·rw [qY h]
   intro c hc
   obtain rfl:=List.mem_singleton.1 hc
   rw [u4 h];omega
  ·rw [sP h]
   intro c hc
   rcases List.mem_append.1 hc with hc|hc
   ·exact ih _ za c hc
   ·obtain rfl:=List.mem_singleton.1 hc
    rw [u4 za];omega
theorem wx(u:Nat):decDigits u≠ []:=by
 by_cases h:u<10
 ·rw [qY h];simp
 ·rw [sP h];simp
theorem xC{acc d:Nat}(hd:d<10)(h:acc*10+d<18446744073709551616)(r:List UInt8):parseUint10 acc (UInt8.ofNat (48+d)::r)=parseUint10 (acc*10+d) r:=by
 rw [parseUint10,u4 hd,if_pos za,if_neg za,if_neg za]
 rw [show 48+d-48=d by omega]
theorem BL:∀(u:Nat)(r:List UInt8),u<18446744073709551616->parseUint10 0 (decDigits u++r)=parseUint10 u r:=by
 intro u
 induction u using Nat.strongRecOn with
 |_ u ih=>
  intro r hu
  by_cases h:u<10
  ·rw [qY h]
   show parseUint10 0 (UInt8.ofNat (48+u)::r)=_
   rw [xC h za]
   rw [show 0*10+u=u by omega]
  ·rw [sP h,List.append_assoc,ih (u / 10) za _ za]
   show parseUint10 (u / 10) (UInt8.ofNat (48+u%10)::r)=_
   rw [xC za za]
   rw [show u / 10*10+u%10=u by omega]
theorem wG(u:Nat)(hu:u<18446744073709551616):parseMag (decDigits u)= .ok u:=by
 unfold parseMag
 rw [if_neg (wx u)]
 have:=BL u [] hu
 rw [List.append_nil]at this
 rw [this];rfl
theorem Bx{n:Int}(h0: -9223372036854775808<=n)(h1:n<=9223372036854775807):atoiAll (itoa n)= .ok n:=by
 unfold itoa
 by_cases h:n<0
 ·rw [if_pos h,atoiAll_minus,wG _ za]
  simp only [signed]
  rw [if_neg za]
  congr 1;omega
 ·rw [if_neg h]
  obtain⟨c,r,hc⟩:=List.exists_cons_of_ne_nil (wx n.toNat)
  have hd:=tg n.toNat c (by rw [hc];simp)
  rw [hc,atoiAll_plain c r za za, <-hc,wG _ za]
  simp only [signless]
  rw [if_neg za]
  congr 1;omega
theorem A3(n:Int):∀c∈itoa n,c=45∨48<=c.toNat∧c.toNat<=57:=by
 unfold itoa
 intro c hc
 split at hc
 ·rcases List.mem_cons.1 hc with rfl|hc
  ·exact .inl rfl
  ·exact .inr (tg _ c hc)
 ·exact .inr (tg _ c hc)
theorem Bn{n:Int}{c:UInt8}(hc:c.toNat<45∨c.toNat=46∨c.toNat=47∨57<c.toNat):c∉itoa n:=by
 intro h
 rcases A3 n c h with rfl|h
 ·have:(45:UInt8).toNat=45:=rfl
  omega
 ·omega
theorem Ak{n:Int}(h0: -9223372036854775808<=n)(h1:n<=9223372036854775807):u7 n=some (itoa n):=by unfold u7;rw [if_pos ⟨h0,h1⟩]
theorem vL:∀(k u:Nat),u<10 ^ k->(decDigits u).length<=k+1:=by
 intro k
 induction k with
 |zero=>intro u hu;rw [qY (by simp at hu;omega)];simp
 |succ k ih=>
  intro u hu
  by_cases h:u<10
  ·rw [qY h];simp
  ·rw [sP h,List.length_append]
   have:=ih (u / 10) (by rw [Nat.pow_succ]at hu;omega)
   simp only [List.length_cons,List.length_nil];omega
theorem yj{n:Int}(h0: -9223372036854775808<=n)(h1:n<=9223372036854775807):(itoa n).length<=21:=by
 unfold itoa
 split
 ·have:=vL 19 n.natAbs za
  simp only [List.length_cons];omega
 ·have:=vL 19 n.toNat za
  omega
theorem AK{n:Int}(h0: -9223372036854775808<=n)(h1:n<=9223372036854775807):xX (itoa n)=some (n,true):=by
 unfold xX
 rw [if_pos (by have:=yj h0 h1;omega),Bx h0 h1]
theorem yB{c:UInt8}:∀{w:List UInt8},c∉w->qz c w=[w]
 | [],_=>rfl
 |x::r,h=>by
  rw [qz,if_neg (fun e=>h (by simp [e])),yB (fun e=>h (List.mem_cons_of_mem _ e))]
theorem yA{c:UInt8}:∀{w:List UInt8}(r:List UInt8),c∉w->qz c (w++c::r)=w::qz c r
 | [],r,_=>by simp [qz]
 |x::w,r,h=>by
  show qz c (x::(w++c::r))=_
  rw [qz,if_neg (fun e=>h (by simp [e])),yA r (fun e=>h (List.mem_cons_of_mem _ e))]
theorem join_one(w s:List UInt8):Lib.join [w] s=w:=by simp [Lib.join,List.intercalate,List.intersperse]
theorem join_cons(w v s:List UInt8)(l:List (List UInt8)):Lib.join (w::v::l) s=w++s++Lib.join (v::l) s:=by simp [Lib.join,List.intercalate,List.intersperse]
theorem yC{c:UInt8}:∀{l:List (List UInt8)},l≠ []->(∀w∈l,c∉w)->qz c (Lib.join l [c])=l
 | [],h,_=>(h rfl).elim
 | [w],_,h=>by rw [join_one];exact yB (h w sm)
 |w::v::l,_,h=>by
  rw [join_cons,List.append_assoc]
  show qz c (w++c::Lib.join (v::l) [c])=_
  rw [yA _ (h w sm),yC sm (fun x hx=>h x (List.mem_cons_of_mem _ hx))]
theorem BQ{s:List UInt8}{c:UInt8}(hs:s.length<=4000000000):wh s [c]=some (qz c s):=by
 show(if s.length<4294967281 then some (qz c s)else none)=_
 rw [if_pos za]
theorem yk{s:List UInt8}{k:Nat}:∀{l:List (List UInt8)},(∀w∈l,w.length<=k)->(Lib.join l s).length<=l.length*(k+s.length)
 | [],_=>by simp [Lib.join,List.intercalate,List.intersperse]
 | [w],h=>by
  rw [join_one]
  have:=h w sm
  simp only [List.length_cons,List.length_nil];omega
 |w::v::l,h=>by
  rw [join_cons,List.length_append,List.length_append]
  have h1:=h w sm
  have h2:=yk (s:=s) (l:=v::l) (fun x hx=>h x (List.mem_cons_of_mem _ hx))
  rw [List.length_cons,Nat.add_mul]
  omega
theorem joinO_ok{l:List (List UInt8)}{s:List UInt8}(h0:l≠ [])(hw:∀w∈l,w.length<=1000000)(hl:l.length<=1000000)(hs:s.length<=1000000):u9 l s=some (Lib.join l s):=by
 unfold u9
 have h1:=yk (s:=s) hw
 have h2:l.length*(1000000+s.length)<=1000000*2000000:=Nat.mul_le_mul hl za
 rw [if_pos ⟨h0,za,za⟩]
end Go.Dw
