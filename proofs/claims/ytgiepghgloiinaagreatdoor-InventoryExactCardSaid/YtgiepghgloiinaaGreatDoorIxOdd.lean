
import Derived.Test.YtgiepghgloiinaaGreatDoorIxOddE
import Derived.Test.YtgiepghgloiinaaGreatDoorIxOddD
import Derived.Test.YtgiepghgloiinaaGreatDoorDwFun

namespace Go.Dw.Ix
open Go.Proofs Go.Dw
theorem oddD_ok(base:qc):∀args bs r b,oddD 8 args bs=some (r,b)->nj Tryz.prog base 8 args bs r b:=fun args bs r b h=>by
  obtain⟨a,d,y,rfl,rfl,c,rfl,rfl⟩:=oddD_some h
  exact Ev.wG (base:=base) (ext:=extO) (H:=eV) (fun f g h=>by cases h) (by kernel_rfl) (law19_odd_evB c)
end Go.Dw.Ix
