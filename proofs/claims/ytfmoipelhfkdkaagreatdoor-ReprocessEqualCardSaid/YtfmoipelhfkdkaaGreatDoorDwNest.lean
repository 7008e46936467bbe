
import Derived.Test.YtfmoipelhfkdkaaGreatDoorDwLift4
open List renaming map->Fa

namespace Go.Dw
def zz{α:Type}(l:List α):Option α:=l[l.length-1]?
def atO(n:Int)(j:Nat):Option Unit:=if n.toNat=j then some ()else none
def stO(len:Nat)(n:Int)(j:Nat):Option Unit:=if n.toNat=j∧j<len then some ()else none
theorem zZ{n:Int}{j:Nat}{y:Unit}(h:atO n j=some y):n.toNat=j:=by unfold atO at h;split at h<;>first|assumption|cases h
theorem stO_some{len:Nat}{n:Int}{j:Nat}{y:Unit}(h:stO len n j=some y):n.toNat=j∧j<len:=by unfold stO at h;split at h<;>first|assumption|cases h
section
variable {P:Program}{nb:Nat}{R:List (Nat×RV)}{B:List (Nat×Box)}{s':St}{gs:List w6}{α:Type}{g:α->PD}{l:List (List α)}{es:List α}{id new k ver kv i:Nat}{e e2:TypeId}
theorem tS{x:w6}{s s1:St}(h1:ta P nb s x=some s1)(h:rJ P nb s1 gs=some s'):rJ P nb s (x::gs)=some s':=by
 simp only [rJ,h1];exact h
theorem wH(f:zz l=some es)(q:assoc B id=some (.nest ver e e2 (l.map (Fa g)) none))(j:assoc B new=none)
  (h:rJ P nb (A R ((new,.arr 0 e2 (es.map g))::(id,.nest ver e e2 (l.map (Fa g)) (some (l.length-1,.ref new 0)))::B)) gs=some s'):rJ P nb (A R B) (.lend id none new::gs)=some s':=by
 refine tS ?_ h
 unfold zz at f
 have h1:xj (A R B) (l.map (Fa g)) none=some (l.length-1,es.map g):=by
  simp [xj,f]
 simp only [ta,q,j,h1]
 rfl
theorem Br{r:Nat}{n:Int}{q:IntKind}(j:oc l n=some es)(F:assoc R r=some (.d (.int q n)))(E:assoc B id=some (.nest ver e e2 (l.map (Fa g)) none))(f:assoc B new=none)
  (h:rJ P nb (A R ((new,.arr 0 e2 (es.map g))::(id,.nest ver e e2 (l.map (Fa g)) (some (n.toNat,.ref new 0)))::B)) gs=some s'):rJ P nb (A R B) (.lend id (some r) new::gs)=some s':=by
 refine tS ?_ h
 obtain⟨u,h1,C⟩:=xF j
 have D:xj (A R B) (l.map (Fa g)) (some r)=some (n.toNat,es.map g):=by
  simp [xj,F,u,C]
 simp only [ta,E,f,D]
 rfl
theorem vP(j:assoc B id=some (.nest ver e e2 (l.map (Fa g)) (some (i,.ref k kv))))(hk:assoc B k=some (.arr kv e2 (es.map g)))(f:k≠id)
  (h:rJ P nb (A R ((k,.dead)::(id,.nest ver e e2 ((l.set i es).map (Fa g)) none)::B)) gs=some s'):rJ P nb (A R B) (.give id::gs)=some s':=by
 refine tS ?_ h
 simp only [ta,j,hk,f,ne_eq,not_false_eq_true,and_self,if_true,List.map_set]
 rfl
theorem Cb{r:Nat}(hp:assoc R r=some (.ref id ver))(f:assoc B id=some (.nest ver e e2 (l.map (Fa g)) none))
  (h:rJ P nb (A ((r,.d (.lst (l.map fun x=>.lst (x.map g))))::R) ((id,.dead)::B)) gs=some s'):rJ P nb (A R B) (.frzn (.reg r)::gs)=some s':=by
 refine tS ?_ h
 simp only [ta,uI,hp,f,if_true,uO,List.map_map,Function.comp_def]
 rfl
end
section
variable {P:Program}{H:Hints}{ext:FuncId->Option rO}{mt:Hf}{ops:Array Oper}{l:List Oper}{R:List (Nat×RV)}{B:List (Nat×Box)}{K:List (Nat×RV)->List (Nat×Box)->List Tr->Prop}{o:Oper}{d:Nat}
theorem WO.lenN{α:Type}{g:α->PD}{li:List (List α)}{t e e2 C:TypeId}{x:Operand}{c:Call}{id ver:Nat}{G:Option (Nat×RV)}(hw:og ops (A R B) o=some true)(F:o.dst=some d)(ho:o.op= .call c)
  (hc:c.callee= .builtin .len) (D:c.args.toList=[x]) (f:c.argTypes= #[t]) (J:(A R B).opd x=some (.ref id ver)) (E:assoc B id=some (.nest ver e e2 (li.map (Fa g)) G)) (I:P.underlying t=some (.slice C))
  (h:WO P H ext mt ops l ((d,.d (.int .i64 (li.length:Int)))::R) B fun r q ts=>K r q (⟨[id],[]⟩::ts)):WO P H ext mt ops (o::l) R B K:=by
 refine WO.step (u:=[]) (rd:=[id]) (c:=true) hw F (fun n=>?_) rfl h
 have j:tK (A R B) c.args.toList=some [.ref id ver]:=by simp only [D,tK,J]
 simp only [rN,ho,hc,j,f]
 show yW P t _ _=_
 simp [yW,I,M.bind,M.get,E,sQ,M.pure]
theorem WO.eltN{α:Type}{g:α->PD}{li:List (List α)}{t e e2:TypeId}{x i:Operand}{k:IntKind}{n:Int}{id ver sz:Nat}{D:Option (Nat×RV)}{y:Unit}(f:inO li n=some y)(hw:og ops (A R B) o=some true)(C:o.dst=some d)(ho:o.op= .indexAddr t x i)
  (G:(A R B).opd x=some (.ref id ver)) (hi:(A R B).opd i=some (.d (.int k n))) (r:assoc B id=some (.nest ver e e2 (li.map (Fa g)) D)) (F:P.underlying t=some (.slice e)) (I:szT P e=some sz)
  (h:WO P H ext mt ops l ((d,.elt id ver n.toNat 0)::R) B fun q j ts=>K q j (⟨[id],[]⟩::ts)):WO P H ext mt ops (o::l) R B K:=by
 have E:0<=n∧n<li.length:=by unfold inO at f;split at f<;>first|assumption|cases f
 refine WO.step (u:=[]) (rd:=[id]) (c:=decide (0<=n∧n<(li.map (Fa g)).length)) hw C (fun m=>?_) (by simpa using E) h
 simp only [rN,ho,G,hi,tc,F,I,M.bind,M.get,r,and_self,if_true,se,M.rG]
 simp
theorem WO.loadN{t e e2:TypeId}{a:Operand}{n:Int}{id ver j k:Nat}{ess:List (List PD)}{rv:RV}{y:Unit}(E:atO n j=some y)(hw:og ops (A R B) o=some true)(D:o.dst=some d)(ho:o.op= .load t a)
  (r:(A R B).opd a=some (.elt id ver n.toNat 0)) (C:assoc B id=some (.nest ver e e2 ess (some (j,rv)))) (hk:ug P t=some (false,k))
  (h:WO P H ext mt ops l ((d,rv)::R) B fun q f ts=>K q f (⟨[id],[]⟩::ts)):WO P H ext mt ops (o::l) R B K:=by
 have F:=zZ E
 refine WO.step (u:=[]) (rd:=[id]) (c:=true) hw D (fun m=>?_) rfl h
 simp only [rN,ho,r,uw,M.bind,M.get,C,F,and_self,if_true,hk,sQ,M.pure]
 rfl
theorem WO.C3{α:Type}{g:α->PD}{li:List (List α)}{t e e2:TypeId}{a x:Operand}{n:Int}{id ver j q kv:Nat}{rv:RV}{y:Unit}(F:stO li.length n j=some y)(hw:og ops (A R B) o=some true)(E:o.dst=none)(ho:o.op= .store t a x)
  (C:(A R B).opd a=some (.elt id ver n.toNat 0)) (I:(A R B).opd x=some (.ref q kv)) (D:assoc B id=some (.nest ver e e2 (li.map (Fa g)) (some (j,rv)))) (J:szT P t=some 1)
  (h:WO P H ext mt ops l R ((id,.nest ver e e2 (li.map (Fa g)) (some (j,.ref q kv)))::B) fun r f ts=>K r f (⟨[id],[id]⟩::ts)):WO P H ext mt ops (o::l) R B K:=by
 obtain⟨G,hl⟩:=stO_some F
 refine WO.zH (v:= .undef) (u:=[(id,.nest ver e e2 (li.map (Fa g)) (some (j,.ref q kv)))]) (rd:=[id]) (c:=(RV.ref q kv).one&&decide (j<(li.map (Fa g)).length)&&decide (j=j)) hw E (fun m=>?_) ?_ h
 ·simp only [rN,ho,C,I,vL,J,M.bind,M.get,D,G,and_self,if_true,M.rG]
  rfl
 ·simp [RV.one,hl]
theorem WO.appNN{α:Type}{g:α->PD}{li r:List (List α)}{t e e2:TypeId}{x y:Operand}{c:Call}{id ver by_:Nat}{z:Value}(N:rR li [[]] (by_+1)=some r)(hw:og ops (A R B) o=some true)(L:o.dst=some d)(ho:o.op= .call c)
  (hc:c.callee= .builtin .append) (I:c.args.toList=[x,y]) (f:c.argTypes= #[t,t]) (T:(A R B).opd x=some (.ref id ver)) (U:(A R B).opd y=some (.d (.lst [nil0])))
  (J:assoc B id=some (.nest ver e e2 (li.map (Fa g)) none)) (Q:sD P t=some e) (W:szT P e=some 1) (j:sP P e=some (by_+1)) (E:sr P e=some z) (D:z.cells.size=1)
  (h:WO P H ext mt ops l ((d,.ref id (ver+1))::R) ((id,.nest (ver+1) e e2 (r.map (Fa g)) none)::B) fun G F ts=>K G F (⟨[id],[id]⟩::ts)):WO P H ext mt ops (o::l) R B K:=by
 obtain⟨h1,rfl⟩:=wh N
 rw [List.map_append]at h
 refine WO.step (u:=[(id,.nest (ver+1) e e2 (li.map (Fa g)++[[]]) none)]) (rd:=[id]) (c:=decide (((li.map (Fa g)).length+1)*(by_+1)<=140737488355328)) hw L (fun n=>?_) ?_ h
 ·have C:tK (A R B) c.args.toList=some [.ref id ver,.d (.lst [nil0])]:=by simp only [I,tK,T,U]
  simp only [rN,ho,hc,C,f]
  have q:∀(m X:M (RV×Ups)),(if(#[t,t]:Array TypeId).size=2 then m else X)=m:=fun _ _=>if_pos rfl
  rw [q,if_pos (show(#[t,t]:Array TypeId).getD 0 0=(#[t,t]:Array TypeId).getD 1 0 from rfl)]
  show te P _ t t _ _ _=_
  have O: [nil0].all Az=true:=rfl
  simp only [te,Q,W,j,E,D,and_self,if_true,M.bind,sq,M.pure,M.get,J,M.rG,O]
  simp [List.replicate]
 ·simpa using h1
end
end Go.Dw
