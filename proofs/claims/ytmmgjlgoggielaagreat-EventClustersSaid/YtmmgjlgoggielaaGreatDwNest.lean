
import Derived.Test.YtmmgjlgoggielaaGreatDwLift4

namespace Go.Dw
def wJ{α:Type}(l:List α):Option α:=l[l.length-1]?
def atO(n:Int)(j:Nat):Option Unit:=if n.toNat=j then some ()else none
def stO(len:Nat)(n:Int)(j:Nat):Option Unit:=if n.toNat=j∧j<len then some ()else none
theorem atO_some{n:Int}{j:Nat}{y:Unit}(h:atO n j=some y):n.toNat=j:=by unfold atO at h;split at h<;>first|assumption|cases h
theorem stO_some{len:Nat}{n:Int}{j:Nat}{y:Unit}(h:stO len n j=some y):n.toNat=j∧j<len:=by unfold stO at h;split at h<;>first|assumption|cases h
section
variable {P:Program}{nb:Nat}{R:List (Nat×RV)}{B:List (Nat×Box)}{s':St}{gs:List xk}{α:Type}{g:α->PD}{l:List (List α)}{es:List α}{id new k ver kv i:Nat}{e e2:TypeId}
theorem tc{x:xk}{s s1:St}(h1:qY P nb s x=some s1)(h:cI P nb s1 gs=some s'):cI P nb s (x::gs)=some s':=by
 simp only [cI,h1];exact h
theorem uu(hes:wJ l=some es)(hB:assoc B id=some (.nest ver e e2 (l.map (List.map g)) none))(hnew:assoc B new=none)
  (h:cI P nb (A R ((new,.arr 0 e2 (es.map g))::(id,.nest ver e e2 (l.map (List.map g)) (some (l.length-1,.ref new 0)))::B)) gs=some s'):cI P nb (A R B) (.lend id none new::gs)=some s':=by
 refine tc ?_ h
 unfold wJ at hes
 have h1:vd (A R B) (l.map (List.map g)) none=some (l.length-1,es.map g):=by
  simp [vd,hes]
 simp only [qY,hB,hnew,h1]
 rfl
theorem zj{r:Nat}{n:Int}{q:IntKind}(hes:eQ l n=some es)(hr:assoc R r=some (.d (.int q n)))(hB:assoc B id=some (.nest ver e e2 (l.map (List.map g)) none))(hnew:assoc B new=none)
  (h:cI P nb (A R ((new,.arr 0 e2 (es.map g))::(id,.nest ver e e2 (l.map (List.map g)) (some (n.toNat,.ref new 0)))::B)) gs=some s'):cI P nb (A R B) (.lend id (some r) new::gs)=some s':=by
 refine tc ?_ h
 obtain⟨h0,h1,h2⟩:=wY hes
 have h3:vd (A R B) (l.map (List.map g)) (some r)=some (n.toNat,es.map g):=by
  simp [vd,hr,h0,h2]
 simp only [qY,hB,hnew,h3]
 rfl
theorem tE(hB:assoc B id=some (.nest ver e e2 (l.map (List.map g)) (some (i,.ref k kv))))(hk:assoc B k=some (.arr kv e2 (es.map g)))(hne:k≠id)
  (h:cI P nb (A R ((k,.dead)::(id,.nest ver e e2 ((l.set i es).map (List.map g)) none)::B)) gs=some s'):cI P nb (A R B) (.give id::gs)=some s':=by
 refine tc ?_ h
 simp only [qY,hB,hk,hne,ne_eq,not_false_eq_true,and_self,if_true,List.map_set]
 rfl
theorem Ac{r:Nat}(hp:assoc R r=some (.ref id ver))(hB:assoc B id=some (.nest ver e e2 (l.map (List.map g)) none))
  (h:cI P nb (A ((r,.d (.lst (l.map fun x=>.lst (x.map g))))::R) ((id,.dead)::B)) gs=some s'):cI P nb (A R B) (.frzn (.reg r)::gs)=some s':=by
 refine tc ?_ h
 simp only [qY,sr,hp,hB,if_true,sD,List.map_map,Function.comp_def]
 rfl
end
section
variable {P:Program}{H:Hints}{ext:FuncId->Option kp}{mt:Hf}{ops:Array Oper}{l:List Oper}{R:List (Nat×RV)}{B:List (Nat×Box)}{K:List (Nat×RV)->List (Nat×Box)->List Tr->Prop}{o:Oper}{d:Nat}
theorem WO.lenN{α:Type}{g:α->PD}{li:List (List α)}{t e e2 e':TypeId}{x:Operand}{c:Call}{id ver:Nat}{hh:Option (Nat×RV)}(hw:gY ops (A R B) o=some true)(hd:o.dst=some d)(ho:o.op= .call c)
  (hc:c.callee= .builtin .len) (ha:c.args.toList=[x]) (hat:c.argTypes= #[t]) (hx:(A R B).opd x=some (.ref id ver)) (hb:assoc B id=some (.nest ver e e2 (li.map (List.map g)) hh)) (ht:P.underlying t=some (.slice e'))
  (h:WO P H ext mt ops l ((d,.d (.int .i64 (li.length:Int)))::R) B fun R' B' ts=>K R' B' (⟨[id],[]⟩::ts)):WO P H ext mt ops (o::l) R B K:=by
 refine WO.step (u:=[]) (rd:=[id]) (c:=true) hw hd (fun n=>?_) rfl h
 have ho2:rH (A R B) c.args.toList=some [.ref id ver]:=by simp only [ha,rH,hx]
 simp only [kZ,ho,hc,ho2,hat]
 show w7 P t _ _=_
 simp [w7,ht,M.bind,M.get,hb,qN,M.pure]
theorem WO.eltN{α:Type}{g:α->PD}{li:List (List α)}{t e e2:TypeId}{x i:Operand}{k:IntKind}{n:Int}{id ver sz:Nat}{hh:Option (Nat×RV)}{y:Unit}(hg:inO li n=some y)(hw:gY ops (A R B) o=some true)(hd:o.dst=some d)(ho:o.op= .indexAddr t x i)
  (hx:(A R B).opd x=some (.ref id ver)) (hi:(A R B).opd i=some (.d (.int k n))) (hb:assoc B id=some (.nest ver e e2 (li.map (List.map g)) hh)) (ht:P.underlying t=some (.slice e)) (hz:szT P e=some sz)
  (h:WO P H ext mt ops l ((d,.elt id ver n.toNat 0)::R) B fun R' B' ts=>K R' B' (⟨[id],[]⟩::ts)):WO P H ext mt ops (o::l) R B K:=by
 have hn:0<=n∧n<li.length:=by unfold inO at hg;split at hg<;>first|assumption|cases hg
 refine WO.step (u:=[]) (rd:=[id]) (c:=decide (0<=n∧n<(li.map (List.map g)).length)) hw hd (fun m=>?_) (by simpa using hn) h
 simp only [kZ,ho,hx,hi,qM,ht,hz,M.bind,M.get,hb,and_self,if_true,lD,M.hX]
 simp
theorem WO.loadN{t e e2:TypeId}{a:Operand}{n:Int}{id ver j k:Nat}{ess:List (List PD)}{rv:RV}{y:Unit}(hg:atO n j=some y)(hw:gY ops (A R B) o=some true)(hd:o.dst=some d)(ho:o.op= .load t a)
  (ha:(A R B).opd a=some (.elt id ver n.toNat 0)) (hb:assoc B id=some (.nest ver e e2 ess (some (j,rv)))) (hk:tk P t=some (false,k))
  (h:WO P H ext mt ops l ((d,rv)::R) B fun R' B' ts=>K R' B' (⟨[id],[]⟩::ts)):WO P H ext mt ops (o::l) R B K:=by
 have hj:=atO_some hg
 refine WO.step (u:=[]) (rd:=[id]) (c:=true) hw hd (fun m=>?_) rfl h
 simp only [kZ,ho,ha,tl,M.bind,M.get,hb,hj,and_self,if_true,hk,qN,M.pure]
 rfl
theorem WO.A5{α:Type}{g:α->PD}{li:List (List α)}{t e e2:TypeId}{a x:Operand}{n:Int}{id ver j q kv:Nat}{rv:RV}{y:Unit}(hg:stO li.length n j=some y)(hw:gY ops (A R B) o=some true)(hd:o.dst=none)(ho:o.op= .store t a x)
  (ha:(A R B).opd a=some (.elt id ver n.toNat 0)) (hx:(A R B).opd x=some (.ref q kv)) (hb:assoc B id=some (.nest ver e e2 (li.map (List.map g)) (some (j,rv)))) (hz:szT P t=some 1)
  (h:WO P H ext mt ops l R ((id,.nest ver e e2 (li.map (List.map g)) (some (j,.ref q kv)))::B) fun R' B' ts=>K R' B' (⟨[id],[id]⟩::ts)):WO P H ext mt ops (o::l) R B K:=by
 obtain⟨hj,hl⟩:=stO_some hg
 refine WO.Ar (v:= .undef) (u:=[(id,.nest ver e e2 (li.map (List.map g)) (some (j,.ref q kv)))]) (rd:=[id]) (c:=(RV.ref q kv).one&&decide (j<(li.map (List.map g)).length)&&decide (j=j)) hw hd (fun m=>?_) ?_ h
 ·simp only [kZ,ho,ha,hx,tW,hz,M.bind,M.get,hb,hj,and_self,if_true,M.hX]
  rfl
 ·simp [RV.one,hl]
theorem WO.appNN{α:Type}{g:α->PD}{li r:List (List α)}{t e e2:TypeId}{x y:Operand}{c:Call}{id ver by_:Nat}{z:Value}(hg:nJ li [[]] (by_+1)=some r)(hw:gY ops (A R B) o=some true)(hd:o.dst=some d)(ho:o.op= .call c)
  (hc:c.callee= .builtin .append) (ha:c.args.toList=[x,y]) (hat:c.argTypes= #[t,t]) (hx:(A R B).opd x=some (.ref id ver)) (hy:(A R B).opd y=some (.d (.lst [nil0])))
  (hb:assoc B id=some (.nest ver e e2 (li.map (List.map g)) none)) (ht:rf P t=some e) (hz:szT P e=some 1) (hby:rJ P e=some (by_+1)) (hzz:rz P e=some z) (hzs:z.cells.size=1)
  (h:WO P H ext mt ops l ((d,.ref id (ver+1))::R) ((id,.nest (ver+1) e e2 (r.map (List.map g)) none)::B) fun R' B' ts=>K R' B' (⟨[id],[id]⟩::ts)):WO P H ext mt ops (o::l) R B K:=by
 obtain⟨h1,rfl⟩:=wU hg
 rw [List.map_append]at h
 refine WO.step (u:=[(id,.nest (ver+1) e e2 (li.map (List.map g)++[[]]) none)]) (rd:=[id]) (c:=decide (((li.map (List.map g)).length+1)*(by_+1)<=140737488355328)) hw hd (fun n=>?_) ?_ h
 ·have ho2:rH (A R B) c.args.toList=some [.ref id ver,.d (.lst [nil0])]:=by simp only [ha,rH,hx,hy]
  simp only [kZ,ho,hc,ho2,hat]
  have hif:∀(m m':M (RV×Ups)),(if(#[t,t]:Array TypeId).size=2 then m else m')=m:=fun _ _=>if_pos rfl
  rw [hif,if_pos (show(#[t,t]:Array TypeId).getD 0 0=(#[t,t]:Array TypeId).getD 1 0 from rfl)]
  show rm P _ t t _ _ _=_
  have hn: [nil0].all yj=true:=rfl
  simp only [rm,ht,hz,hby,hzz,hzs,and_self,if_true,M.bind,qI,M.pure,M.get,hb,M.hX,hn]
  simp [List.replicate]
 ·simpa using h1
end
end Go.Dw
