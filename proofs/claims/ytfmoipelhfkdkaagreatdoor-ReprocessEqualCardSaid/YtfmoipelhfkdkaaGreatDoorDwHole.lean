
import Derived.Test.YtfmoipelhfkdkaaGreatDoorDwNest

namespace Go.Dw
def setF{α:Type}(l:List α)(i:Nat)(f:α->α):List α:=match l[i]? with|some x=>l.set i (f x)|none=>l
theorem setF_map{α:Type}{g:α->PD}{f:α->α}{l:List α}{i o:Nat}{p:PD}(hf:∀x,(g x).put o [p]=g (f x)):(l.map g).set i (((l.map g).getD i default).put o [p])=(setF l i f).map g:=by
 unfold setF
 by_cases hi:i<l.length
 ·rw [zf hi]
  have:(l.map g).getD i default=g l[i]:=by simp [List.getD,hi]
  rw [this,hf,List.map_set]
 ·rw [List.getElem?_eq_none za]
  exact List.set_eq_of_length_le (by simpa using hi)
section
variable {P:Program}{nb:Nat}{R:List (Nat×RV)}{B:List (Nat×Box)}{s':St}{gs:List w6}{α β:Type}{g:α->PD}{g2:β->PD}{l:List α}{es:List β}{id k ver kv i o:Nat}{e e2:TypeId}
theorem Aw{r:Nat}{n:Int}{q:IntKind}{x:α}{c:PD}(D:oc l n=some x)(hc:(g x).cells[o]? =some c)(C:assoc R r=some (.d (.int q n)))(u:assoc B id=some (.arr ver e (l.map g)))
  (h:rJ P nb (A R ((id,.hole ver e (l.map g) n.toNat o (.d c))::B)) gs=some s'):rJ P nb (A R B) (.opn id r o::gs)=some s':=by
 refine tS ?_ h
 obtain⟨E,h1,f⟩:=xF D
 have j:(l.map g)[n.toNat]? =some (g x):=by rw [List.getElem?_map,f];rfl
 simp only [ta,u,C,j,hc]
 rfl
theorem Av{f:α->α}(q:assoc B id=some (.hole ver e (l.map g) i o (.ref k kv)))(hk:assoc B k=some (.arr kv e2 (es.map g2)))(j:k≠id)(hf:∀x,(g x).put o [.lst (es.map g2)]=g (f x))
  (h:rJ P nb (A R ((k,.dead)::(id,.arr ver e ((setF l i f).map g))::B)) gs=some s'):rJ P nb (A R B) (.cls id::gs)=some s':=by
 refine tS ?_ h
 simp only [ta,q,hk,j,ne_eq,not_false_eq_true,and_self,if_true,setF_map hf]
 rfl
end
section
variable {P:Program}{H:Hints}{ext:FuncId->Option rO}{mt:Hf}{ops:Array Oper}{l:List Oper}{R:List (Nat×RV)}{B:List (Nat×Box)}{K:List (Nat×RV)->List (Nat×Box)->List Tr->Prop}{o:Oper}{d:Nat}
theorem WO.eltH{α:Type}{g:α->PD}{li:List α}{t e:TypeId}{x i:Operand}{k:IntKind}{n:Int}{id ver sz j q:Nat}{rv:RV}{y:Unit}(f:inO li n=some y)(hw:og ops (A R B) o=some true)(E:o.dst=some d)(ho:o.op= .indexAddr t x i)
  (I:(A R B).opd x=some (.ref id ver)) (hi:(A R B).opd i=some (.d (.int k n))) (D:assoc B id=some (.hole ver e (li.map g) j q rv)) (G:P.underlying t=some (.slice e)) (J:szT P e=some sz)
  (h:WO P H ext mt ops l ((d,.elt id ver n.toNat 0)::R) B fun C r ts=>K C r (⟨[id],[]⟩::ts)):WO P H ext mt ops (o::l) R B K:=by
 have F:0<=n∧n<li.length:=by unfold inO at f;split at f<;>first|assumption|cases f
 refine WO.step (u:=[]) (rd:=[id]) (c:=decide (0<=n∧n<(li.map g).length)) hw E (fun m=>?_) (by simpa using F) h
 simp only [rN,ho,I,hi,tc,G,J,M.bind,M.get,D,and_self,if_true,se,M.rG]
 simp
theorem WO.loadH{t e:TypeId}{a:Operand}{n:Int}{id ver j q k:Nat}{es:List PD}{rv:RV}{y:Unit}(F:atO n j=some y)(hw:og ops (A R B) o=some true)(E:o.dst=some d)(ho:o.op= .load t a)
  (C:(A R B).opd a=some (.elt id ver n.toNat q)) (D:assoc B id=some (.hole ver e es j q rv)) (hk:ug P t=some (false,k))
  (h:WO P H ext mt ops l ((d,rv)::R) B fun r f ts=>K r f (⟨[id],[]⟩::ts)):WO P H ext mt ops (o::l) R B K:=by
 have G:=zZ F
 refine WO.step (u:=[]) (rd:=[id]) (c:=true) hw E (fun m=>?_) rfl h
 simp only [rN,ho,C,uw,M.bind,M.get,D,G,and_self,if_true,hk,sQ,M.pure]
 rfl
theorem WO.storeH{t e:TypeId}{a x:Operand}{n:Int}{id ver j q:Nat}{es:List PD}{rv v:RV}{y:Unit}(F:atO n j=some y)(hw:og ops (A R B) o=some true)(E:o.dst=none)(ho:o.op= .store t a x)
  (C:(A R B).opd a=some (.elt id ver n.toNat q)) (J:(A R B).opd x=some v) (D:assoc B id=some (.hole ver e es j q rv)) (I:v.one=true) (L:szT P t=some 1)
  (h:WO P H ext mt ops l R ((id,.hole ver e es j q v)::B) fun r f ts=>K r f (⟨[id],[id]⟩::ts)):WO P H ext mt ops (o::l) R B K:=by
 have G:=zZ F
 refine WO.zH (v:= .undef) (u:=[(id,.hole ver e es j q v)]) (rd:=[id]) (c:=v.one) hw E (fun m=>?_) I h
 simp only [rN,ho,C,J,vL,L,M.bind,M.get,D,G,and_self,if_true,M.rG]
 rfl
end
end Go.Dw
