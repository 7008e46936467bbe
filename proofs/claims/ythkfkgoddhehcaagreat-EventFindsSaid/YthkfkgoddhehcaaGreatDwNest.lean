
import Derived.Test.YthkfkgoddhehcaaGreatDwLift4
open List renaming map->GU

namespace Go.Dw
def ye{α:Type}(l:List α):Option α:=l[l.length-1]?
def atO(n:Int)(j:Nat):Option Unit:=if n.toNat=j then some ()else none
def stO(len:Nat)(n:Int)(j:Nat):Option Unit:=if n.toNat=j∧j<len then some ()else none
theorem atO_some{n:Int}{j:Nat}{y:Unit}(h:atO n j=some y):n.toNat=j:=by unfold atO at h;split at h<;>first|assumption|cases h
theorem stO_some{len:Nat}{n:Int}{j:Nat}{y:Unit}(h:stO len n j=some y):n.toNat=j∧j<len:=by unfold stO at h;split at h<;>first|assumption|cases h
section
variable {P:Program}{nb:Nat}{R:List (Nat×RV)}{B:List (Nat×Box)}{s':St}{gs:List yk}{α:Type}{g:α->PD}{l:List (List α)}{es:List α}{id new k ver kv i:Nat}{e e2:TypeId}
theorem vZ{x:yk}{s s1:St}(h1:uN P nb s x=some s1)(h:tH P nb s1 gs=some s'):tH P nb s (x::gs)=some s':=by
 simp only [tH,h1];exact h
theorem vv(a:ye l=some es)(f:assoc B id=some (.nest ver e e2 (l.map (GU g)) none))(c:assoc B new=none)
  (h:tH P nb (A R ((new,.arr 0 e2 (es.map g))::(id,.nest ver e e2 (l.map (GU g)) (some (l.length-1,.ref new 0)))::B)) gs=some s'):tH P nb (A R B) (.lend id none new::gs)=some s':=by
 refine vZ ?_ h
 unfold ye at a
 have h1:yx (A R B) (l.map (GU g)) none=some (l.length-1,es.map g):=by
  simp [yx,a]
 simp only [uN,f,c,h1]
 rfl
theorem zV{r:Nat}{n:Int}{q:IntKind}(c:py l n=some es)(u:assoc R r=some (.d (.int q n)))(t:assoc B id=some (.nest ver e e2 (l.map (GU g)) none))(a:assoc B new=none)
  (h:tH P nb (A R ((new,.arr 0 e2 (es.map g))::(id,.nest ver e e2 (l.map (GU g)) (some (n.toNat,.ref new 0)))::B)) gs=some s'):tH P nb (A R B) (.lend id (some r) new::gs)=some s':=by
 refine vZ ?_ h
 obtain⟨f,h1,j⟩:=Am c
 have p:yx (A R B) (l.map (GU g)) (some r)=some (n.toNat,es.map g):=by
  simp [yx,u,f,j]
 simp only [uN,t,a,p]
 rfl
theorem uT(c:assoc B id=some (.nest ver e e2 (l.map (GU g)) (some (i,.ref k kv))))(hk:assoc B k=some (.arr kv e2 (es.map g)))(a:k≠id)
  (h:tH P nb (A R ((k,.dead)::(id,.nest ver e e2 ((l.set i es).map (GU g)) none)::B)) gs=some s'):tH P nb (A R B) (.zm id::gs)=some s':=by
 refine vZ ?_ h
 simp only [uN,c,hk,a,ne_eq,not_false_eq_true,and_self,if_true,List.map_set]
 rfl
theorem AN{r:Nat}(hp:assoc R r=some (.ref id ver))(a:assoc B id=some (.nest ver e e2 (l.map (GU g)) none))
  (h:tH P nb (A ((r,.d (.lst (l.map λx=>.lst (x.map g))))::R) ((id,.dead)::B)) gs=some s'):tH P nb (A R B) (.frzn (.reg r)::gs)=some s':=by
 refine vZ ?_ h
 simp only [uN,wm,hp,a,if_true,wz,List.map_map,Function.comp_def]
 rfl
end
section
variable {P:Program}{H:Hints}{ext:FuncId->Option tI}{mt:Hf}{ops:Array Oper}{l:List Oper}{R:List (Nat×RV)}{B:List (Nat×Box)}{K:List (Nat×RV)->List (Nat×Box)->List Tr->Prop}{o:Oper}{d:Nat}
theorem WO.zY{α:Type}{g:α->PD}{li:List (List α)}{t e e2 q:TypeId}{x:Operand}{c:Call}{id ver:Nat}{C:Option (Nat×RV)}(hw:tz ops (A R B) o=some true)(z:o.dst=some d)(ho:o.op= .call c)
  (hc:c.callee= .builtin .len) (r:c.args.toList=[x]) (a:c.argTypes= #[t]) (E:(A R B).opd x=some (.ref id ver)) (y:assoc B id=some (.nest ver e e2 (li.map (GU g)) C)) (D:P.underlying t=some (.slice q))
  (h:WO P H ext mt ops l ((d,.d (.int .i64 (li.length:Int)))::R) B λp j ts=>K p j (⟨[id],[]⟩::ts)):WO P H ext mt ops (o::l) R B K:=by
 refine WO.step (u:=[]) (rd:=[id]) (c:=true) hw z (λn=>?_) rfl h
 have f:vw (A R B) c.args.toList=some [.ref id ver]:=by simp only [r,vw,E]
 simp only [tP,ho,hc,f,a]
 show Ar P t _ _=_
 simp [Ar,D,M.bind,M.get,y,uB,M.pure]
theorem WO.zj{α:Type}{g:α->PD}{li:List (List α)}{t e e2:TypeId}{x i:Operand}{k:IntKind}{n:Int}{id ver sz:Nat}{r:Option (Nat×RV)}{y:Unit}(a:inO li n=some y)(hw:tz ops (A R B) o=some true)(q:o.dst=some d)(ho:o.op= .indexAddr t x i)
  (D:(A R B).opd x=some (.ref id ver)) (hi:(A R B).opd i=some (.d (.int k n))) (p:assoc B id=some (.nest ver e e2 (li.map (GU g)) r)) (C:P.underlying t=some (.slice e)) (E:szT P e=some sz)
  (h:WO P H ext mt ops l ((d,.elt id ver n.toNat 0)::R) B λj f ts=>K j f (⟨[id],[]⟩::ts)):WO P H ext mt ops (o::l) R B K:=by
 have z:0<=n∧n<li.length:=by unfold inO at a;split at a<;>first|assumption|cases a
 refine WO.step (u:=[]) (rd:=[id]) (c:=decide (0<=n∧n<(li.map (GU g)).length)) hw q (λm=>?_) (by simpa using z) h
 simp only [tP,ho,D,hi,uG,C,E,M.bind,M.get,p,and_self,if_true,tZ,M.tL]
 simp
theorem WO.AO{t e e2:TypeId}{a:Operand}{n:Int}{id ver j k:Nat}{ess:List (List PD)}{rv:RV}{y:Unit}(z:atO n j=some y)(hw:tz ops (A R B) o=some true)(x:o.dst=some d)(ho:o.op= .load t a)
  (q:(A R B).opd a=some (.elt id ver n.toNat 0)) (r:assoc B id=some (.nest ver e e2 ess (some (j,rv)))) (hk:wy P t=some (false,k))
  (h:WO P H ext mt ops l ((d,rv)::R) B λp f ts=>K p f (⟨[id],[]⟩::ts)):WO P H ext mt ops (o::l) R B K:=by
 have C:=atO_some z
 refine WO.step (u:=[]) (rd:=[id]) (c:=true) hw x (λm=>?_) rfl h
 simp only [tP,ho,q,wg,M.bind,M.get,r,C,and_self,if_true,hk,uB,M.pure]
 rfl
theorem WO.zF{α:Type}{g:α->PD}{li:List (List α)}{t e e2:TypeId}{a x:Operand}{n:Int}{id ver j q kv:Nat}{rv:RV}{y:Unit}(D:stO li.length n j=some y)(hw:tz ops (A R B) o=some true)(C:o.dst=none)(ho:o.op= .store t a x)
  (r:(A R B).opd a=some (.elt id ver n.toNat 0)) (G:(A R B).opd x=some (.ref q kv)) (z:assoc B id=some (.nest ver e e2 (li.map (GU g)) (some (j,rv)))) (I:szT P t=some 1)
  (h:WO P H ext mt ops l R ((id,.nest ver e e2 (li.map (GU g)) (some (j,.ref q kv)))::B) λp f ts=>K p f (⟨[id],[id]⟩::ts)):WO P H ext mt ops (o::l) R B K:=by
 obtain⟨E,F⟩:=stO_some D
 refine WO.Dc (v:= .undef) (u:=[(id,.nest ver e e2 (li.map (GU g)) (some (j,.ref q kv)))]) (rd:=[id]) (c:=(RV.ref q kv).one&&decide (j<(li.map (GU g)).length)&&decide (j=j)) hw C (λm=>?_) ?_ h
 ·simp only [tP,ho,r,G,xr,I,M.bind,M.get,z,E,and_self,if_true,M.tL]
  rfl
 ·simp [RV.one,F]
theorem WO.appNN{α:Type}{g:α->PD}{li r:List (List α)}{t e e2:TypeId}{x y:Operand}{c:Call}{id ver by_:Nat}{z:Value}(J:tE li [[]] (by_+1)=some r)(hw:tz ops (A R B) o=some true)(I:o.dst=some d)(ho:o.op= .call c)
  (hc:c.callee= .builtin .append) (F:c.args.toList=[x,y]) (a:c.argTypes= #[t,t]) (O:(A R B).opd x=some (.ref id ver)) (Q:(A R B).opd y=some (.d (.lst [AW])))
  (G:assoc B id=some (.nest ver e e2 (li.map (GU g)) none)) (N:uA P t=some e) (T:szT P e=some 1) (f:uJ P e=some (by_+1)) (C:uE P e=some z) (q:z.cells.size=1)
  (h:WO P H ext mt ops l ((d,.ref id (ver+1))::R) ((id,.nest (ver+1) e e2 (r.map (GU g)) none)::B) λE D ts=>K E D (⟨[id],[id]⟩::ts)):WO P H ext mt ops (o::l) R B K:=by
 obtain⟨h1,rfl⟩:=Aj J
 rw [List.map_append]at h
 refine WO.step (u:=[(id,.nest (ver+1) e e2 (li.map (GU g)++[[]]) none)]) (rd:=[id]) (c:=decide (((li.map (GU g)).length+1)*(by_+1)<=140737488355328)) hw I (λn=>?_) ?_ h
 ·have p:vw (A R B) c.args.toList=some [.ref id ver,.d (.lst [AW])]:=by simp only [F,vw,O,Q]
  simp only [tP,ho,hc,p,a]
  have j:∀(m W:M (RV×Ups)),(if(#[t,t]:Array TypeId).size=2 then m else W)=m:=λ_ _=>if_pos rfl
  rw [j,if_pos (show(#[t,t]:Array TypeId).getD 0 0=(#[t,t]:Array TypeId).getD 1 0 from rfl)]
  show uV P _ t t _ _ _=_
  have L: [AW].all Bs=true:=rfl
  simp only [uV,N,T,f,C,q,and_self,if_true,M.bind,uF,M.pure,M.get,G,M.tL,L]
  simp [List.replicate]
 ·simpa using h1
end
end Go.Dw
