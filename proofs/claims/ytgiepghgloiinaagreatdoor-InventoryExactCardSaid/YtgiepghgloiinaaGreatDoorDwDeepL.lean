
import Derived.Test.YtgiepghgloiinaaGreatDoorDwHole
import Derived.Test.YtgiepghgloiinaaGreatDoorDwLift4

namespace Go.Dw
section
variable {P:Program}{nb:Nat}{R:List (Nat×RV)}{B:List (Nat×Box)}{s':St}{gs:List oV}{α β:Type}{g:α->PD}{g2:β->PD}{l:List α}{es:List β}{id k ver kv i o:Nat}{e e2:TypeId}{ts:List (Nat×TypeId)}
theorem rN{r new:Nat}{n:Int}{q:IntKind}{x:α}{row:List PD}(m:jB l n=some x)(hc:(g x).cells[o]? =some (.lst row))(j:assoc R r=some (.d (.int q n)))(c:assoc B id=some (.deep ver e (l.map g) o e2 ts none))(f:assoc B new=none)
  (h:kx P nb (A R ((new,pY e2 row ts)::(id,.deep ver e (l.map g) o e2 ts (some (n.toNat,.ref new 0)))::B)) gs=some s'):kx P nb (A R B) (.opnd id r new::gs)=some s':=by
 refine kL ?_ h
 obtain⟨p,h1,a⟩:=pr m
 have b:(l.map g)[n.toNat]? =some (g x):=by rw [List.getElem?_map,a];rfl
 simp only [kU,c,j,f,b,hc]
 rfl
theorem lh{b:Box}{f:α->α}(c:assoc B id=some (.deep ver e (l.map g) o e2 ts (some (i,.ref k kv))))(hk:assoc B k=some b)(hb:o0 ts e2 kv b=some (es.map g2))(a:k≠id)(hf:∀x,(g x).put o [.lst (es.map g2)]=g (f x))
  (h:kx P nb (A R ((k,.dead)::(id,.deep ver e ((lG l i f).map g) o e2 ts none)::B)) gs=some s'):kx P nb (A R B) (.clsd id::gs)=some s':=by
 refine kL ?_ h
 simp only [kU,c,hk,hb,a,ne_eq,not_false_eq_true,if_true,putRow,wi hf]
 rfl
theorem uK{f:α->α}(a:assoc B id=some (.deep ver e (l.map g) o e2 ts (some (i,.jt))))(hf:∀x,(g x).put o [.lst []]=g (f x))
  (h:kx P nb (A R ((id,.deep ver e ((lG l i f).map g) o e2 ts none)::B)) gs=some s'):kx P nb (A R B) (.clsd id::gs)=some s':=by
 refine kL ?_ h
 simp only [kU,a,putRow,wi hf]
 rfl
theorem kk{a:List PD}(b:assoc B id=some (.deep ver e a o e2 ts none))(h:kx P nb (A R ((id,.arr ver e a)::B)) gs=some s'):kx P nb (A R B) (.flatd id 0::gs)=some s':=by
 refine kL ?_ h
 simp only [kU,b]
 rfl
theorem la{a:List PD}{n:Nat}{hh:Option (Nat×RV)}(b:assoc B id=some (.deep ver e a o e2 ts hh))(h:kx P nb (A R ((id,.deep ver e a o e2 (ts.take n) hh)::B)) gs=some s'):kx P nb (A R B) (.flatd id (n+1)::gs)=some s':=by
 refine kL ?_ h
 simp only [kU,b]
 rfl
end
section
variable {P:Program}{H:Hints}{ext:FuncId->Option ko}{mt:Hf}{ops:Array Oper}{l:List Oper}{R:List (Nat×RV)}{B:List (Nat×Box)}{K:List (Nat×RV)->List (Nat×Box)->List Tr->Prop}{o:Oper}{d:Nat}{ts:List (Nat×TypeId)}{hh:Option (Nat×RV)}
theorem WO.lenP{α:Type}{g:α->PD}{li:List α}{t e e2 m:TypeId}{x:Operand}{c:Call}{id ver q:Nat}(hw:j9 ops (A R B) o=some true)(hd:o.dst=some d)(ho:o.op= .call c)
  (hc:c.callee= .builtin .len) (p:c.args.toList=[x]) (a:c.argTypes= #[t]) (r:(A R B).opd x=some (.ref id ver)) (hb:assoc B id=some (.deep ver e (li.map g) q e2 ts hh)) (ht:P.underlying t=some (.slice m))
  (h:WO P H ext mt ops l ((d,.d (.int .i64 (li.length:Int)))::R) B fun j f ts=>K j f (⟨[id],[]⟩::ts)):WO P H ext mt ops (o::l) R B K:=by
 refine WO.step (u:=[]) (rd:=[id]) (c:=true) hw hd (fun n=>?_) rfl h
 have b:lN (A R B) c.args.toList=some [.ref id ver]:=by simp only [p,lN,r]
 simp only [kF,ho,hc,b,a]
 show tc P t _ _=_
 simp [tc,ht,M.bind,M.get,hb,kO,M.pure]
theorem WO.eltP{α:Type}{g:α->PD}{li:List α}{t e e2:TypeId}{x i:Operand}{k:IntKind}{n:Int}{id ver sz q:Nat}{y:Unit}(a:inO li n=some y)(hw:j9 ops (A R B) o=some true)(hd:o.dst=some d)(ho:o.op= .indexAddr t x i)
  (p:(A R B).opd x=some (.ref id ver)) (hi:(A R B).opd i=some (.d (.int k n))) (hb:assoc B id=some (.deep ver e (li.map g) q e2 ts hh)) (ht:P.underlying t=some (.slice e)) (r:szT P e=some sz)
  (h:WO P H ext mt ops l ((d,.elt id ver n.toNat 0)::R) B fun f b ts=>K f b (⟨[id],[]⟩::ts)):WO P H ext mt ops (o::l) R B K:=by
 have j:0<=n∧n<li.length:=by unfold inO at a;split at a<;>first|assumption|cases a
 refine WO.step (u:=[]) (rd:=[id]) (c:=decide (0<=n∧n<(li.map g).length)) hw hd (fun m=>?_) (by simpa using j) h
 simp only [kF,ho,p,hi,lz,ht,r,M.bind,M.get,hb,and_self,if_true,kJ,M.j6]
 simp
theorem WO.loadP{α:Type}{g:α->PD}{li:List α}{t e e2:TypeId}{a:Operand}{n:Int}{id ver off q k:Nat}{b:Bool}{y:α}{v:RV}(z:jB li n=some y)(hw:j9 ops (A R B) o=some true)(hd:o.dst=some d)(ho:o.op= .load t a)
  (x:(A R B).opd a=some (.elt id ver n.toNat off)) (hb:assoc B id=some (.deep ver e (li.map g) q e2 ts hh)) (hk:lS P t=some (b,k)) (C:(decide (b=false∧off=q))=false) (f:decide (q<off∨off+(if b=true then k else 1)<=q)=true)
  (D:mi P t (((g y).cells.drop off).take (if b=true then k else 1)) (assoc B)=some ((v,[]),[],true))
  (h:WO P H ext mt ops l ((d,v)::R) B fun p j ts=>K p j (⟨[id],[]⟩::ts)):WO P H ext mt ops (o::l) R B K:=by
 obtain⟨E,h1,r⟩:=pr z
 refine WO.step (u:=[]) (rd:=[id]) (c:=true) hw hd (fun m=>?_) rfl h
 have s:(li.map g)[n.toNat]? =some (g y):=by simp [r]
 simp only [kF,ho,x,mK,M.bind,M.get,hb,if_true,o4,hk,if_neg (of_decide_eq_false C),if_pos (of_decide_eq_true f),s,D]
 simp
theorem WO.uS{t e e2:TypeId}{a:Operand}{n:Int}{id ver j q k:Nat}{es:List PD}{rv:RV}{y:Unit}(r:atO n j=some y)(hw:j9 ops (A R B) o=some true)(hd:o.dst=some d)(ho:o.op= .load t a)
  (p:(A R B).opd a=some (.elt id ver n.toNat q)) (hb:assoc B id=some (.deep ver e es q e2 ts (some (j,rv)))) (hk:lS P t=some (false,k))
  (h:WO P H ext mt ops l ((d,rv)::R) B fun f b ts=>K f b (⟨[id],[]⟩::ts)):WO P H ext mt ops (o::l) R B K:=by
 have s:=vw r
 refine WO.step (u:=[]) (rd:=[id]) (c:=true) hw hd (fun m=>?_) rfl h
 simp only [kF,ho,p,mK,M.bind,M.get,hb,s,if_true,o4,hk,and_self,kO,M.pure]
 rfl
theorem WO.tE{α:Type}{g:α->PD}{f:α->α}{li r:List α}{t e e2:TypeId}{a x:Operand}{n:Int}{id ver off sz q:Nat}{p:PD}(G:oT li n f=some r)(y:∀x,(g x).put off p.cells=g (f x))
  (b:∀x,off+sz<=(g x).cells.length) (hw:j9 ops (A R B) o=some true) (hd:o.dst=none) (ho:o.op= .store t a x) (F:(A R B).opd a=some (.elt id ver n.toNat off)) (L:(A R B).opd x=some (.d p))
  (hb:assoc B id=some (.deep ver e (li.map g) q e2 ts hh)) (N:szT P t=some sz) (I:decide (off=q∧sz=1)=false) (z:decide (q<off∨off+sz<=q)=true) (J:(RV.d p).sized=true) (s:p.cells.length=sz)
  (h:WO P H ext mt ops l R ((id,.deep ver e (r.map g) q e2 ts hh)::B) fun D C ts=>K D C (⟨[id],[id]⟩::ts)):WO P H ext mt ops (o::l) R B K:=by
 obtain⟨h1,j,rfl⟩:=ug G
 have E:(li.map g)[n.toNat]? =some (g li[n.toNat]):=by simp [j]
 rw [List.map_set, <-y li[n.toNat]]at h
 refine WO.uo (v:= .undef) (u:=[(id,.deep ver e ((li.map g).set n.toNat ((g li[n.toNat]).put off p.cells)) q e2 ts hh)]) (rd:=[id]) (c:=(RV.d p).sized&&decide (p.cells.length=sz∧off+sz<=(g li[n.toNat]).cells.length)) hw hd (fun m=>?_) ?_ h
 ·simp only [kF,ho,F,L,nI,N,M.bind,M.get,hb,if_true,if_neg (of_decide_eq_false I),if_pos (of_decide_eq_true z),E,M.j6]
  simp [M.j6]
 ·simp [J,s,b]
theorem WO.ve{t e e2:TypeId}{a x:Operand}{n:Int}{id ver j q:Nat}{es:List PD}{rv v:RV}{y:Unit}(r:atO n j=some y)(hw:j9 ops (A R B) o=some true)(hd:o.dst=none)(ho:o.op= .store t a x)
  (p:(A R B).opd a=some (.elt id ver n.toNat q)) (C:(A R B).opd x=some v) (hb:assoc B id=some (.deep ver e es q e2 ts (some (j,rv)))) (z:v.one=true) (D:szT P t=some 1)
  (h:WO P H ext mt ops l R ((id,.deep ver e es q e2 ts (some (j,v)))::B) fun f b ts=>K f b (⟨[id],[id]⟩::ts)):WO P H ext mt ops (o::l) R B K:=by
 have s:=vw r
 refine WO.uo (v:= .undef) (u:=[(id,.deep ver e es q e2 ts (some (j,v)))]) (rd:=[id]) (c:=v.one) hw hd (fun m=>?_) z h
 simp only [kF,ho,p,C,nI,D,M.bind,M.get,hb,s,and_self,if_true,M.j6]
 rfl
theorem WO.appP{α:Type}{g:α->PD}{li r:List α}{m:α}{t e e2:TypeId}{x y:Operand}{c:Call}{id ver sz by_ q:Nat}{z:Value}{cs:List RV}{row b:List PD}{u:Ups}{rd:List Nat}(O:lu li [m] (by_+1)=some r)(hw:j9 ops (A R B) o=some true)(hd:o.dst=some d)(ho:o.op= .call c)
  (hc:c.callee= .builtin .append) (N:c.args.toList=[x,y]) (f:c.argTypes= #[t,t]) (Q:(A R B).opd x=some (.ref id ver)) (T:(A R B).opd y=some (.rlit cs)) (hb:assoc B id=some (.deep ver e (li.map g) q e2 ts none))
  (E:tB id e2 ts cs[q]? (assoc B)=some ((row,u),rd,true)) (D:nL (cs.set q (.d (.lst row)))=some b) (hm:PD.agg b=g m) (a:b.all PD.one=true) (p:cs.length=sz+1)
  (ht:k9 P t=some e) (U:szT P e=some (sz+1)) (j:lJ P e=some (by_+1)) (G:kZ P e=some z) (F:z.cells.size=sz+1)
  (h:WO P H ext mt ops l ((d,.ref id (ver+1))::R) (sc (u++[(id,.deep (ver+1) e (r.map g) q e2 ts none)]) B) fun L J I=>K L J (⟨[id]++rd,(u++[(id,Box.deep (ver+1) e (r.map g) q e2 ts none)]).map (·.1)⟩::I)):WO P H ext mt ops (o::l) R B K:=by
 obtain⟨h1,rfl⟩:=n5 O
 rw [List.map_append,List.map_singleton, <-hm]at h
 refine WO.step (v:= .ref id (ver+1)) (u:=u++[(id,.deep (ver+1) e (li.map g++[.agg b]) q e2 ts none)]) (rd:=[id]++rd) (c:=decide (((li.map g).length+1)*(by_+1)<=140737488355328)&&b.all PD.one) hw hd (fun n=>?_) ?_ h
 ·have C:lN (A R B) c.args.toList=some [.ref id ver,.rlit cs]:=by simp only [N,lN,Q,T]
  simp only [kF,ho,hc,C,f]
  have s:∀(m W:M (RV×Ups)),(if(#[t,t]:Array TypeId).size=2 then m else W)=m:=fun _ _=>if_pos rfl
  rw [s,if_pos (show(#[t,t]:Array TypeId).getD 0 0=(#[t,t]:Array TypeId).getD 1 0 from rfl)]
  show mz P t t _ _ _=_
  simp only [mz,ht,U,j,G,F,and_self,if_true,M.bind,M.get,hb,p,E,D,M.j6]
  simp [M.j6]
 ·rw [a,Bool.and_true,decide_eq_true_eq]
  simpa using h1
end
end Go.Dw
