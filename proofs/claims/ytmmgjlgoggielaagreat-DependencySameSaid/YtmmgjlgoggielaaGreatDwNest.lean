
import Derived.Test.YtmmgjlgoggielaaGreatDwLift4

namespace Go.Dw
def xS{α:Type}(l:List α):Option α:=l[l.length-1]?
def atO(n:Int)(j:Nat):Option Unit:=if n.toNat=j then some ()else none
def stO(len:Nat)(n:Int)(j:Nat):Option Unit:=if n.toNat=j∧j<len then some ()else none
theorem atO_some{n:Int}{j:Nat}{y:Unit}(h:atO n j=some y):n.toNat=j:=by unfold atO at h;split at h<;>first|assumption|cases h
theorem stO_some{len:Nat}{n:Int}{j:Nat}{y:Unit}(h:stO len n j=some y):n.toNat=j∧j<len:=by unfold stO at h;split at h<;>first|assumption|cases h
section
variable {P:Program}{nb:Nat}{R:List (Nat×RV)}{B:List (Nat×Box)}{s':St}{gs:List wM}{α:Type}{g:α->PD}{l:List (List α)}{es:List α}{id new k ver kv i:Nat}{e e2:TypeId}
theorem tl{x:wM}{s s1:St}(h1:qT P nb s x=some s1)(h:qb P nb s1 gs=some s'):qb P nb s (x::gs)=some s':=by
 simp only [qb,h1];exact h
theorem uP(hes:xS l=some es)(hB:assoc B id=some (.nest ver e e2 (l.map (List.map g)) none))(hnew:assoc B new=none)
  (h:qb P nb (A R ((new,.arr 0 e2 (es.map g))::(id,.nest ver e e2 (l.map (List.map g)) (some (l.length-1,.ref new 0)))::B)) gs=some s'):qb P nb (A R B) (.lend id none new::gs)=some s':=by
 refine tl ?_ h
 unfold xS at hes
 have h1:vG (A R B) (l.map (List.map g)) none=some (l.length-1,es.map g):=by
  simp [vG,hes]
 simp only [qT,hB,hnew,h1]
 rfl
theorem zU{r:Nat}{n:Int}{q:IntKind}(hes:pH l n=some es)(hr:assoc R r=some (.d (.int q n)))(hB:assoc B id=some (.nest ver e e2 (l.map (List.map g)) none))(hnew:assoc B new=none)
  (h:qb P nb (A R ((new,.arr 0 e2 (es.map g))::(id,.nest ver e e2 (l.map (List.map g)) (some (n.toNat,.ref new 0)))::B)) gs=some s'):qb P nb (A R B) (.lend id (some r) new::gs)=some s':=by
 refine tl ?_ h
 obtain⟨h0,h1,h2⟩:=xl hes
 have h3:vG (A R B) (l.map (List.map g)) (some r)=some (n.toNat,es.map g):=by
  simp [vG,hr,h0,h2]
 simp only [qT,hB,hnew,h3]
 rfl
theorem tU(hB:assoc B id=some (.nest ver e e2 (l.map (List.map g)) (some (i,.ref k kv))))(hk:assoc B k=some (.arr kv e2 (es.map g)))(hne:k≠id)
  (h:qb P nb (A R ((k,.dead)::(id,.nest ver e e2 ((l.set i es).map (List.map g)) none)::B)) gs=some s'):qb P nb (A R B) (.wx id::gs)=some s':=by
 refine tl ?_ h
 simp only [qT,hB,hk,hne,ne_eq,not_false_eq_true,and_self,if_true,List.map_set]
 rfl
theorem AG{r:Nat}(hp:assoc R r=some (.ref id ver))(hB:assoc B id=some (.nest ver e e2 (l.map (List.map g)) none))
  (h:qb P nb (A ((r,.d (.lst (l.map fun x=>.lst (x.map g))))::R) ((id,.dead)::B)) gs=some s'):qb P nb (A R B) (.frzn (.reg r)::gs)=some s':=by
 refine tl ?_ h
 simp only [qT,sJ,hp,hB,if_true,sW,List.map_map,Function.comp_def]
 rfl
end
section
variable {P:Program}{H:Hints}{ext:FuncId->Option qa}{mt:Hf}{ops:Array Oper}{l:List Oper}{R:List (Nat×RV)}{B:List (Nat×Box)}{K:List (Nat×RV)->List (Nat×Box)->List Tr->Prop}{o:Oper}{d:Nat}
theorem WO.lenN{α:Type}{g:α->PD}{li:List (List α)}{t e e2 e':TypeId}{x:Operand}{c:Call}{id ver:Nat}{hh:Option (Nat×RV)}(hw:pO ops (A R B) o=some true)(hd:o.dst=some d)(ho:o.op= .call c)
  (hc:c.callee= .builtin .len) (ha:c.args.toList=[x]) (hat:c.argTypes= #[t]) (hx:(A R B).opd x=some (.ref id ver)) (hb:assoc B id=some (.nest ver e e2 (li.map (List.map g)) hh)) (ht:P.underlying t=some (.slice e'))
  (h:WO P H ext mt ops l ((d,.d (.int .i64 (li.length:Int)))::R) B fun R' B' ts=>K R' B' (⟨[id],[]⟩::ts)):WO P H ext mt ops (o::l) R B K:=by
 refine WO.step (u:=[]) (rd:=[id]) (c:=true) hw hd (fun n=>?_) rfl h
 have ho2:sa (A R B) c.args.toList=some [.ref id ver]:=by simp only [ha,sa,hx]
 simp only [qg,ho,hc,ho2,hat]
 show xu P t _ _=_
 simp [xu,ht,M.bind,M.get,hb,qI,M.pure]
theorem WO.eltN{α:Type}{g:α->PD}{li:List (List α)}{t e e2:TypeId}{x i:Operand}{k:IntKind}{n:Int}{id ver sz:Nat}{hh:Option (Nat×RV)}{y:Unit}(hg:inO li n=some y)(hw:pO ops (A R B) o=some true)(hd:o.dst=some d)(ho:o.op= .indexAddr t x i)
  (hx:(A R B).opd x=some (.ref id ver)) (hi:(A R B).opd i=some (.d (.int k n))) (hb:assoc B id=some (.nest ver e e2 (li.map (List.map g)) hh)) (ht:P.underlying t=some (.slice e)) (hz:szT P e=some sz)
  (h:WO P H ext mt ops l ((d,.elt id ver n.toNat 0)::R) B fun R' B' ts=>K R' B' (⟨[id],[]⟩::ts)):WO P H ext mt ops (o::l) R B K:=by
 have hn:0<=n∧n<li.length:=by unfold inO at hg;split at hg<;>first|assumption|cases hg
 refine WO.step (u:=[]) (rd:=[id]) (c:=decide (0<=n∧n<(li.map (List.map g)).length)) hw hd (fun m=>?_) (by simpa using hn) h
 simp only [qg,ho,hx,hi,qN,ht,hz,M.bind,M.get,hb,and_self,if_true,ql,M.pR]
 simp
theorem WO.loadN{t e e2:TypeId}{a:Operand}{n:Int}{id ver j k:Nat}{ess:List (List PD)}{rv:RV}{y:Unit}(hg:atO n j=some y)(hw:pO ops (A R B) o=some true)(hd:o.dst=some d)(ho:o.op= .load t a)
  (ha:(A R B).opd a=some (.elt id ver n.toNat 0)) (hb:assoc B id=some (.nest ver e e2 ess (some (j,rv)))) (hk:tB P t=some (false,k))
  (h:WO P H ext mt ops l ((d,rv)::R) B fun R' B' ts=>K R' B' (⟨[id],[]⟩::ts)):WO P H ext mt ops (o::l) R B K:=by
 have hj:=atO_some hg
 refine WO.step (u:=[]) (rd:=[id]) (c:=true) hw hd (fun m=>?_) rfl h
 simp only [qg,ho,ha,tC,M.bind,M.get,hb,hj,and_self,if_true,hk,qI,M.pure]
 rfl
theorem WO.Bw{α:Type}{g:α->PD}{li:List (List α)}{t e e2:TypeId}{a x:Operand}{n:Int}{id ver j q kv:Nat}{rv:RV}{y:Unit}(hg:stO li.length n j=some y)(hw:pO ops (A R B) o=some true)(hd:o.dst=none)(ho:o.op= .store t a x)
  (ha:(A R B).opd a=some (.elt id ver n.toNat 0)) (hx:(A R B).opd x=some (.ref q kv)) (hb:assoc B id=some (.nest ver e e2 (li.map (List.map g)) (some (j,rv)))) (hz:szT P t=some 1)
  (h:WO P H ext mt ops l R ((id,.nest ver e e2 (li.map (List.map g)) (some (j,.ref q kv)))::B) fun R' B' ts=>K R' B' (⟨[id],[id]⟩::ts)):WO P H ext mt ops (o::l) R B K:=by
 obtain⟨hj,hl⟩:=stO_some hg
 refine WO.AY (v:= .undef) (u:=[(id,.nest ver e e2 (li.map (List.map g)) (some (j,.ref q kv)))]) (rd:=[id]) (c:=(RV.ref q kv).one&&decide (j<(li.map (List.map g)).length)&&decide (j=j)) hw hd (fun m=>?_) ?_ h
 ·simp only [qg,ho,ha,hx,uq,hz,M.bind,M.get,hb,hj,and_self,if_true,M.pR]
  rfl
 ·simp [RV.one,hl]
theorem WO.appNN{α:Type}{g:α->PD}{li r:List (List α)}{t e e2:TypeId}{x y:Operand}{c:Call}{id ver by_:Nat}{z:Value}(hg:qq li [[]] (by_+1)=some r)(hw:pO ops (A R B) o=some true)(hd:o.dst=some d)(ho:o.op= .call c)
  (hc:c.callee= .builtin .append) (ha:c.args.toList=[x,y]) (hat:c.argTypes= #[t,t]) (hx:(A R B).opd x=some (.ref id ver)) (hy:(A R B).opd y=some (.d (.lst [nil0])))
  (hb:assoc B id=some (.nest ver e e2 (li.map (List.map g)) none)) (ht:rT P t=some e) (hz:szT P e=some 1) (hby:rU P e=some (by_+1)) (hzz:qV P e=some z) (hzs:z.cells.size=1)
  (h:WO P H ext mt ops l ((d,.ref id (ver+1))::R) ((id,.nest (ver+1) e e2 (r.map (List.map g)) none)::B) fun R' B' ts=>K R' B' (⟨[id],[id]⟩::ts)):WO P H ext mt ops (o::l) R B K:=by
 obtain⟨h1,rfl⟩:=xi hg
 rw [List.map_append]at h
 refine WO.step (u:=[(id,.nest (ver+1) e e2 (li.map (List.map g)++[[]]) none)]) (rd:=[id]) (c:=decide (((li.map (List.map g)).length+1)*(by_+1)<=140737488355328)) hw hd (fun n=>?_) ?_ h
 ·have ho2:sa (A R B) c.args.toList=some [.ref id ver,.d (.lst [nil0])]:=by simp only [ha,sa,hx,hy]
  simp only [qg,ho,hc,ho2,hat]
  have hif:∀(m m':M (RV×Ups)),(if(#[t,t]:Array TypeId).size=2 then m else m')=m:=fun _ _=>if_pos rfl
  rw [hif,if_pos (show(#[t,t]:Array TypeId).getD 0 0=(#[t,t]:Array TypeId).getD 1 0 from rfl)]
  show rm P _ t t _ _ _=_
  have hn: [nil0].all yI=true:=rfl
  simp only [rm,ht,hz,hby,hzz,hzs,and_self,if_true,M.bind,su,M.pure,M.get,hb,M.pR,hn]
  simp [List.replicate]
 ·simpa using h1
end
end Go.Dw
