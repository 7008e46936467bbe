/- DsEval: the data-level interpreter: operations, regions, code, functions (definitions only; no claim). -/
import Derived.Test.YtjlbpchimjjcpaaDoorDsCore
namespace Go.Ds

structure St where
  regs : Nat → Option RV
  boxes : Boxes

def St.put (s : St) (dst : Option Nat) (v : RV) : St :=
  match dst with
  | some d => { s with regs := fun t => if t = d then some v else s.regs t }
  | none => s
def St.ups (s : St) : Ups → St
  | [] => s
  | (id, b) :: r => St.ups { s with boxes := fun i => if i = id then some b else s.boxes i } r

def St.opd (s : St) : Operand → Option RV
  | .tmp t => s.regs t
  | .const v => some (constRV v)
  | .func f => some (.d (.raw (.func (.func f) #[] #[])))
  | .global _ => none

abbrev CallD := FuncId → List RV → List Box → Option (RV × List Box)

/-- Results of a call brought home: fresh memory gets boxes of its own. -/
def home1 (id : Nat) : RV → M (RV × Ups)
  | .d p => M.pure (.d p, [])
  | .fresh e es => M.bind (M.vacant id) fun _ => M.pure (.ref id 0, [(id, .arr 0 e es)])
  | .fvar cs => M.bind (M.vacant id) fun _ => M.pure (.ptr id 0, [(id, .var (cs.map .d))])
  | _ => M.fail
def homes (id : Nat) : List RV → M (List RV × Ups)
  | [] => M.pure ([], [])
  | v :: r => M.bind (home1 id v) fun (x, u) => M.bind (homes (id + 1) r) fun (xs, us) => M.pure (x :: xs, u ++ us)
def homeD (id : Nat) : RV → M (RV × Ups)
  | .tup vs => M.bind (homes id vs) fun (xs, u) => M.pure (.tup xs, u)
  | v => home1 id v

/-- What a call's arguments become: data (a slice over a box is consumed), or a variable's box handed on. -/
def argsD : List RV → Nat → M (List RV × List Nat × Ups)
  | [], _ => M.pure ([], [], [])
  | .ptr id off :: r, k => M.bind (argsD r (k + 1)) fun (l, ids, u) => M.pure (.ptr k off :: l, id :: ids, u)
  | v :: r, k => M.bind (toPD v) fun (p, u) => M.bind (argsD r k) fun (l, ids, us) => M.need v.sized (.d p :: l, ids, u ++ us)
def getVars : List Nat → M (List Box)
  | [] => M.pure []
  | id :: r => M.bind (M.get id) fun
    | .var cs => (match allPD cs with
      | some ps => M.bind (getVars r) fun l => M.pure (.var (ps.map .d) :: l)
      | none => M.fail)
    | _ => M.fail
def nodup : List Nat → Bool
  | [] => true
  | a :: r => !r.contains a && nodup r

def callD (call : CallD) (f : FuncId) (id : Nat) (args : List RV) : M (RV × Ups) :=
  M.bind (argsD args 0) fun (as, ids, u0) =>
  M.bind (getVars ids) fun bs =>
  match call f as bs with
  | some (r, bs') => if bs'.length = ids.length ∧ nodup ids = true then M.bind (homeD id r) fun (v, u) => M.pure (v, u0 ++ (ids.zip bs' ++ u)) else M.fail
  | none => M.fail

def opds (s : St) : List Operand → Option (List RV)
  | [] => some []
  | x :: r => match s.opd x, opds s r with
    | some v, some l => some (v :: l)
    | _, _ => none
def opdParts (s : St) : List (Nat × Operand) → Option (List (Nat × RV))
  | [] => some []
  | (i, x) :: r => match s.opd x, opdParts s r with
    | some v, some l => some ((i, v) :: l)
    | _, _ => none
def opdOpt (s : St) : Option Operand → Option (Option RV)
  | none => some none
  | some x => match s.opd x with | some v => some (some v) | none => none

def notD : RV → Option (PD × Bool)
  | .d (.bool b) => some (.bool !b, true)
  | _ => none
def negD : RV → Option (PD × Bool)
  | .d (.int k n) => some (.int k (k.wrap (0 - n)), true)
  | _ => none
def convD (P : Program) (src dst : TypeId) (x : RV) : Option (PD × Bool) :=
  match P.underlying src, P.underlying dst, x with
  | some (.int _), some (.int k), .d (.int _ n) => some (.int k (k.wrap n), true)
  | some .string, some .string, .d (.str s) => some (.str s, true)
  | _, _, _ => none

/-- One operation. 'mt': which literals are boxes. -/
def evOp (P : Program) (mt : Nat → Bool) (call : CallD) (s : St) (o : Oper) : M (RV × Ups) :=
  match o.op with
  | .move x | .assign x => (match s.opd x with | some v => ofRV v | none => M.fail)
  | .pick c a b =>
    (match s.opd c with
     | some (.d (.bool t)) => (match (if t then s.opd a else s.opd b) with | some v => ofRV v | none => M.fail)
     | _ => M.fail)
  | .alloc t => allocD P (o.dst.getD 0 * 16) t
  | .box _ x => (match s.opd x with | some v => boxD (o.dst.getD 0 * 16) v | none => M.fail)
  | .build t parts => (match opdParts s parts.toList with | some l => buildD P t l | none => M.fail)
  | .buildSlice t len parts => (match opdParts s parts.toList with | some l => buildSliceD P (mt (o.dst.getD 0)) (o.dst.getD 0 * 16) t len l | none => M.fail)
  | .load t a => (match s.opd a with | some v => loadD P t v | none => M.fail)
  | .store t a x => (match s.opd a, s.opd x with | some v, some u => storeD P t v u | _, _ => M.fail)
  | .nilCheck x => (match s.opd x with | some v => moveP 0 v | none => M.fail)
  | .binOp op t x y _ => (match s.opd x, s.opd y with | some a, some b => ofOpt (binT P op t a b) | _, _ => M.fail)
  | .unOp .not _ x => (match s.opd x with | some a => ofOpt (notD a) | none => M.fail)
  | .unOp .neg _ x => (match s.opd x with | some a => ofOpt (negD a) | none => M.fail)
  | .convert src dst x => (match s.opd x with | some a => ofOpt (convD P src dst a) | none => M.fail)
  | .slice t x lo hi mx =>
    (match s.opd x, opdOpt s lo, opdOpt s hi, opdOpt s mx with
     | some v, some l, some h, some m => sliceD P t v l h m
     | _, _, _, _ => M.fail)
  | .fieldAddr t x f => (match s.opd x with | some v => fieldAddrD P t v f | none => M.fail)
  | .field t x f => (match s.opd x with | some v => fieldD P t v f | none => M.fail)
  | .indexAddr t x i => (match s.opd x, s.opd i with | some v, some n => indexAddrD P t v n | _, _ => M.fail)
  | .index t x i => (match s.opd x, s.opd i with | some v, some n => indexD P t v n | _, _ => M.fail)
  | .extract x i =>
    (match s.opd x with
     | some (.tup vs) => (match vs[i]? with | some v => ofRV v | none => M.fail)
     | _ => M.fail)
  | .call c =>
    (match c.callee, opds s c.args.toList with
     | .builtin .len, some [x] => (if c.argTypes.size = 1 then lenD P (c.argTypes.getD 0 0) x else M.fail)
     | .builtin .append, some [a, x] => (if c.argTypes.size = 2 then appendD P (o.dst.getD 0 * 16) (c.argTypes.getD 0 0) (c.argTypes.getD 1 0) a x else M.fail)
     | .value f, some as =>
       (match s.opd f with
        | some (.d (.raw (.func (.func g) ⟨[]⟩ ⟨[]⟩))) => callD call g (o.dst.getD 0 * 16) as
        | _ => M.fail)
     | _, _ => M.fail)
  | _ => M.fail

/-- Is the operation wanted? -/
def wantD (ops : Array Oper) (s : St) (o : Oper) : Option Bool :=
  match o.guard with
  | none => some true
  | some (j, want) =>
    match (ops[j]?).bind (·.dst) with
    | none => none
    | some t =>
      match s.regs t with
      | some (.d (.bool b)) => some (b == want)
      | some .undef => some false
      | _ => none

/-- What an operation read and wrote of the boxes. -/
structure Tr where
  rd : List Nat
  wr : List Nat

def step1 (P : Program) (mt : Nat → Bool) (call : CallD) (ops : Array Oper) (o : Oper) (s : St) : Option (St × Tr) :=
  match wantD ops s o with
  | some w =>
    if w then
      match evOp P mt call s o s.boxes with
      | some ((v, u), rd, c) => if c then some ((s.ups u).put o.dst v, ⟨rd, u.map (·.1)⟩) else none
      | none => none
    else some (s.put o.dst .undef, ⟨[], []⟩)
  | none => none

def evOps (P : Program) (mt : Nat → Bool) (call : CallD) (ops : Array Oper) : List Oper → St → Option (St × List Tr)
  | [], s => some (s, [])
  | o :: r, s =>
    match step1 P mt call ops o s with
    | some (s', t) => (match evOps P mt call ops r s' with | some (s'', ts) => some (s'', t :: ts) | none => none)
    | none => none

/-- The operations that come before, as bits. -/
def ancs : List Oper → List Nat → List Nat
  | [], acc => acc
  | o :: r, acc => ancs r (acc ++ [o.after.toList.foldl (fun b e => if Region.binds .any e then b ||| (2 ^ e.on ||| acc.getD e.on 0) else b) 0])
def disj (a b : List Nat) : Bool := a.all fun x => !b.contains x
def pairOk (ops : Array Oper) (x : Oper × Tr) (y : Oper × Tr) : Bool :=
  x.1.apart ops y.1 && disj x.2.wr y.2.rd && disj y.2.wr x.2.rd && disj x.2.wr y.2.wr
/-- Any order that the edges allow comes to the same. -/
def ordOk (ops : Array Oper) (ts : List Tr) : Bool :=
  let l := ops.toList
  let an := ancs l []
  let xs := l.zip ts
  Region.noSelect ops &&
  (l.zipIdx.all fun (o, i) => o.after.toList.all fun e => !Region.binds .any e || decide (e.on < i)) &&
  (xs.zipIdx.all fun (y, i) => xs.zipIdx.all fun (x, j) => !decide (j < i) || (an.getD i 0).testBit j || pairOk ops x y)

inductive Ex where
  | normal
  | exit (id : Nat)
  | ret

def evLoop (body : St → Option (Ex × St)) : Nat → St → Option (Ex × St)
  | 0, _ => none
  | n + 1, s =>
    match body s with
    | some (.normal, s') => evLoop body n s'
    | r => r

/-- Ghost steps: they change what is known, not the run. -/
inductive Ghost where
  | keep (regs boxes : List Nat)
  | own (reg id : Nat) (e : TypeId)
  | freeze (reg : Nat)
  deriving Inhabited

def assoc {α : Type} : List (Nat × α) → Nat → Option α
  | [], _ => none
  | (k, a) :: r, t => if t = k then some a else assoc r t

/-- A register's value with its version set back to 0. -/
def ren1 (b : Boxes) : RV → RV
  | .ref id ver => (match b id with | some (.arr ver' _ _) => if ver = ver' then .ref id 0 else .junk | _ => .junk)
  | .elt _ _ _ _ => .junk
  | .agg _ => .junk
  | .tup _ => .junk
  | v => v
def renV (b : Boxes) : RV → RV
  | .agg cs => .agg (cs.map (ren1 b))
  | .tup cs => .tup (cs.map (ren1 b))
  | v => ren1 b v
def renB (b : Boxes) : Box → Box
  | .arr _ e es => .arr 0 e es
  | .var cs => .var (cs.map (ren1 b))
  | .dead => .dead
/-- The boxes that a value names. -/
def ids1 : RV → List Nat
  | .ref id _ | .ptr id _ | .elt id _ _ _ => [id]
  | _ => []
def idsV : RV → List Nat
  | .agg cs | .tup cs => cs.flatMap ids1
  | v => ids1 v
def idsB : Box → List Nat
  | .var cs => cs.flatMap idsV
  | _ => []
def gets {α : Type} (f : Nat → Option α) : List Nat → Option (List (Nat × α))
  | [] => some []
  | t :: r => match f t, gets f r with
    | some v, some l => some ((t, v) :: l)
    | _, _ => none

def ghost1 (P : Program) (nb : Nat) (s : St) : Ghost → Option St
  | .keep rs bs =>
    match gets s.regs rs, gets s.boxes bs with
    | some l, some m =>
      if (List.range nb).all bs.contains && (l.all fun x => (idsV (renV s.boxes x.2)).all bs.contains) && (m.all fun x => (idsB (renB s.boxes x.2)).all bs.contains) then
        some { regs := assoc (l.map fun x => (x.1, renV s.boxes x.2)), boxes := assoc (m.map fun x => (x.1, renB s.boxes x.2)) }
      else none
    | _, _ => none
  | .own t id e =>
    match s.regs t, s.boxes id, szT P e with
    | some .nils, none, some (_ + 1) => some { regs := fun x => if x = t then some (.ref id 0) else s.regs x, boxes := fun i => if i = id then some (.arr 0 e []) else s.boxes i }
    | _, _, _ => none
  | .freeze t =>
    match s.regs t with
    | some (.ref id ver) =>
      (match s.boxes id with
       | some (.arr ver' _ es) => if ver = ver' then some { regs := fun x => if x = t then some (.d (.lst es)) else s.regs x, boxes := fun i => if i = id then some .dead else s.boxes i } else none
       | _ => none)
    | _ => none
def ghosts (P : Program) (nb : Nat) (s : St) : List Ghost → Option St
  | [] => some s
  | g :: r => match ghost1 P nb s g with | some s' => ghosts P nb s' r | none => none

/-- Hints of a program: ghost steps ahead of a region; which literals are boxes. -/
structure Hints where
  at_ : FuncId → Nat → List Ghost
  mt : FuncId → Nat → Bool

def evRegion (P : Program) (H : Hints) (f : FuncId) (nb : Nat) (call : CallD) (id : Nat) (ops : Array Oper) (dr : Bool) (s : St) : Option St :=
  match ghosts P nb s (H.at_ f id) with
  | none => none
  | some s0 =>
    match evOps P (H.mt f) call ops ops.toList s0 with
    | some (s', ts) => if dr then (if ordOk ops ts then some s' else none) else some s'
    | none => none

def evCode (P : Program) (H : Hints) (f : FuncId) (nb : Nat) (call : CallD) (fuel : Nat) : Code → St → Option (Ex × St)
  | .skip, s => some (.normal, s)
  | .region id ops dr, s => (match evRegion P H f nb call id ops dr s with | some s' => some (.normal, s') | none => none)
  | .seq a b, s =>
    match evCode P H f nb call fuel a s with
    | some (.normal, s') => evCode P H f nb call fuel b s'
    | r => r
  | .cond c a b, s =>
    match s.opd c with
    | some (.d (.bool t)) => if t then evCode P H f nb call fuel a s else evCode P H f nb call fuel b s
    | _ => none
  | .block id b, s =>
    match evCode P H f nb call fuel b s with
    | some (.exit id', s') => if id' = id then some (.normal, s') else some (.exit id', s')
    | r => r
  | .loop b, s => evLoop (evCode P H f nb call fuel b) fuel s
  | .exit id, s => some (.exit id, s)
  | .ret, s => some (.ret, s)
  | _, _ => none

def look {α : Type} : List α → Nat → Option α
  | [], _ => none
  | a :: _, 0 => some a
  | _ :: r, n + 1 => look r n

/-- A result made self-contained; the boxes that it takes along; the boxes that it uses up. -/
def retD1 : RV → M (RV × List Nat × Ups)
  | .d p => M.pure (.d p, [], [])
  | .nils => M.pure (.d (.lst []), [], [])
  | .ref id ver => M.bind (M.get id) fun
    | .arr ver' e es => if ver = ver' then M.pure (.fresh e es, [id], []) else M.fail
    | _ => M.fail
  | .ptr id 0 => M.bind (M.get id) fun
    | .var cs => (match allPD cs with | some ps => M.pure (.fvar ps, [id], []) | none => M.fail)
    | _ => M.fail
  | .agg cs => M.bind (toPDs cs) fun (ps, u) => M.pure (.d (.agg ps), [], u)
  | _ => M.fail
def resV (P : Program) (s : St) : ResultVar → M RV
  | .tmp t => (match s.regs t with | some v => M.pure v | none => M.fail)
  | .cell t ty => M.bind (match s.regs t with | some a => loadD P ty a | none => M.fail) fun (v, _) => M.pure v
def resD (P : Program) (s : St) : List ResultVar → M (List RV × List Nat × Ups)
  | [] => M.pure ([], [], [])
  | x :: r => M.bind (resV P s x) fun v => M.bind (retD1 v) fun (y, i, u) => M.bind (resD P s r) fun (ys, is, us) => M.pure (y :: ys, i ++ is, u ++ us)
def boxOut : Box → M (Box × Ups)
  | .var cs => M.bind (toPDs cs) fun (ps, u) => M.pure (.var (ps.map .d), u)
  | _ => M.fail
def boxesOut (n : Nat) : Nat → M (List Box × Ups)
  | 0 => M.pure ([], [])
  | k + 1 => M.bind (M.get (n - (k + 1))) fun b => M.bind (boxOut b) fun (b, u) => M.bind (boxesOut n k) fun (l, us) => M.pure (b :: l, u ++ us)

def one (l : List RV) : RV := match l with | [v] => v | l => .tup l

/-- Every operation's slot lies in the frame. -/
def dstOk (nt : Nat) : Code → Bool
  | .region _ ops _ => ops.all fun o => match o.dst with | some d => decide (d < nt) | none => true
  | .seq a b | .cond _ a b => dstOk nt a && dstOk nt b
  | .block _ b | .loop b => dstOk nt b
  | _ => true

/-- The outcome of a body, made self-contained: results first, then the variables that were handed in. -/
def finish (P : Program) (fn : Func) (nb : Nat) (s : St) : Option (RV × List Box) :=
  match M.bind (resD P s fn.results.toList) (fun (rs, is, u) => M.bind (boxesOut nb nb) fun (l, us) =>
    M.need (nodup is && is.all (fun i => decide (nb ≤ i)) && disj is ((u ++ us).map (·.1))) (one rs, l)) s.boxes with
  | some (x, _, c) => if c then some x else none
  | none => none

def evFun (P : Program) (H : Hints) (ext : FuncId → Option CallD) : Nat → CallD
  | 0, _, _, _ => none
  | n + 1, f, args, bs =>
    match ext f with
    | some g => g f args bs
    | none =>
      match P.funcs[f]? with
      | some fn =>
        match fn.body with
        | some c =>
          if dstOk fn.ntmps c && (fn.name != "runtime.NumGoroutine") && decide (args.length ≤ fn.ntmps) then
            match evCode P H f bs.length (evFun P H ext n) n c { regs := look args, boxes := look bs } with
            | some (.normal, s) => finish P fn bs.length s
            | some (.ret, s) => finish P fn bs.length s
            | _ => none
          else none
        | none => none
      | none => none
end Go.Ds
