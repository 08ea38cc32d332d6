/- Code with all laid open, and its run over the abstract memory. -/
import Derived.Test.YtgkjmdbjncnlpaaDoorEvP
import Derived.Test.YtgkjmdbjncnlpaaDoorEvM
import Derived.Orders
namespace Go.Ev
set_option linter.unusedVariables false
set_option linter.unusedSimpArgs false

inductive Out where
  | ret (v : V)
  | pan (v : V)
  deriving Inhabited

inductive Ex where
  | nor
  | exit (id : Nat)
  | ret
  | pan (v : V)
  deriving Inhabited

inductive RI where
  | op (r : ROp)
  | call (f : RX) (args : List RX)
  | scall (f : FuncId) (args : List RX)
  | pan (x : RX)
  deriving Inhabited

structure RO where
  dst : Option Nat
  ins : RI
  guard : Option (Nat × Bool)
  deriving Inhabited

/-- What is kept of slots behind a piece of code (behind a 'return': 'res'), and what is seen otherwise before it begins and behind it. -/
structure TI where
  keep : List Nat
  res : List Nat
  ent : List Wd
  beh : List Wd
  deriving Inhabited

inductive RC where
  | skip
  | ops (l : List RO)
  | par (k : Nat) (l : List RO)
  | seq (a b : RC)
  | cond (c : RX) (a b : RC)
  | block (id : Nat) (c : RC)
  | loop (ti : TI) (c : RC)
  | tidy (ti : TI) (c : RC)
  | exit (id : Nat)
  | scope (c : RC)
  | ret
  deriving Inhabited

inductive RRes where
  | tmp (t : Nat) (sz : Option Nat)
  | cell (t : Nat) (ag : Bool) (n : Nat)
  deriving Inhabited

structure RF where
  ntmps : Nat
  res : List RRes
  code : RC
  deriving Inhabited

abbrev CallT := FuncId → List V → List Blk → Option (Out × List Blk)
abbrev SpecT := FuncId → Option (List D → Option D)

def V.callee : V → Option (FuncId × List V × List V)
  | .d (.fn f a b) => some (f, a.map .d, b.map .d)
  | .fn f a b => some (f, a, b)
  | _ => none

def evRI (call : CallT) (sp : SpecT) (ins : RI) (ts : List V) (h : List Blk) : Option (Out × List Blk) :=
  match ins with
  | .op r => (ev1 r (RX.ev ts) h).map fun (v, h') => (.ret v, h')
  | .call f args => match (f.ev ts).callee with
    | some (g, a, b) => call g (a ++ args.map (RX.ev ts) ++ b) h
    | none => none
  | .scall f args => match sp f with
    | some F => match toDs (args.map (RX.ev ts)) with
      | some ds => (F ds).map fun d => (.ret (.d d), h)
      | none => none
    | none => none
  | .pan x => match x.ev ts with
    | .d (.ifc t y) => some (.pan (.d (.ifc t y)), h)
    | .ifc t y => some (.pan (.ifc t y), h)
    | _ => none

/-- Is an operation wanted? -/
def wantR (ts : List V) : Option (Nat × Bool) → Option Bool
  | none => some true
  | some (t, b) => match ts.getD t (.d (.tup [])) with
    | .d (.bool c) => some (c == b)
    | .d (.tup []) => some false
    | _ => none

def putR (ts : List V) (dst : Option Nat) (v : V) : List V := match dst with
  | some t => ts.set t v
  | none => ts

def evOps (call : CallT) (sp : SpecT) : List RO → List V → List Blk → Option (Ex × List V × List Blk)
  | [], ts, h => some (.nor, ts, h)
  | o :: r, ts, h => match wantR ts o.guard with
    | some true => match evRI call sp o.ins ts h with
      | some (.ret v, h') => evOps call sp r (putR ts o.dst v) h'
      | some (.pan v, h') => some (.pan v, ts, h')
      | none => none
    | some false => evOps call sp r (putR ts o.dst (.d (.tup []))) h
    | none => none

/-- What is left behind a piece: what need not be known is forgotten. -/
def tidy (keep : List Nat) (ws : List Wd) (h : List Blk) (ts' : List V) (h' : List Blk) : List V × List Blk :=
  wds ws (compact h.length (forget keep 0 ts') h').1 (compact h.length (forget keep 0 ts') h').2

def tidyE (ti : TI) (h : List Blk) : Option (Ex × List V × List Blk) → Option (Ex × List V × List Blk)
  | some (.nor, ts', h') => some (.nor, (tidy ti.keep ti.beh h ts' h').1, (tidy ti.keep ti.beh h ts' h').2)
  | some (.exit i, ts', h') => some (.exit i, (tidy ti.keep ti.beh h ts' h').1, (tidy ti.keep ti.beh h ts' h').2)
  | some (.ret, ts', h') => some (.ret, (tidy ti.res [] h ts' h').1, (tidy ti.res [] h ts' h').2)
  | r => r

def evLoop (f : List V → List Blk → Option (Ex × List V × List Blk)) (ti : TI) : Nat → List V → List Blk → Option (Ex × List V × List Blk)
  | 0, _, _ => none
  | n + 1, ts, h => match tidyE ti h (f ts h) with
    | some (.nor, ts', h') => evLoop f ti n ts' h'
    | r => r

/-- Blocks that a region makes, at their places. -/
def RI.at (b : Nat) : RI → RI
  | .op (.allocR r z) => .op (.allocA (b + r) z)
  | i => i

def RO.at (b : Nat) (o : RO) : RO := { o with ins := o.ins.at b }

def evC (call : CallT) (sp : SpecT) (n : Nat) : RC → List V → List Blk → Option (Ex × List V × List Blk)
  | .skip, ts, h => some (.nor, ts, h)
  | .ops l, ts, h => evOps call sp l ts h
  | .par k l, ts, h => match evOps call sp (l.map (RO.at h.length)) ts (h ++ List.replicate k .ghost) with
    | some (.nor, ts', h') => some (.nor, ts', h')
    | _ => none
  | .seq a b, ts, h => match evC call sp n a ts h with
    | some (.nor, ts', h') => evC call sp n b ts' h'
    | r => r
  | .cond c a b, ts, h => match c.ev ts with
    | .d (.bool true) => evC call sp n a ts h
    | .d (.bool false) => evC call sp n b ts h
    | _ => none
  | .block id c, ts, h => match evC call sp n c ts h with
    | some (.exit i, ts', h') => if i = id then some (.nor, ts', h') else some (.exit i, ts', h')
    | r => r
  | .loop ti c, ts, h => evLoop (evC call sp n c) ti n (wds ti.ent (forget ti.keep 0 ts) h).1 (wds ti.ent (forget ti.keep 0 ts) h).2
  | .tidy ti c, ts, h => tidyE ti h (evC call sp n c ts h)
  | .exit id, ts, h => some (.exit id, ts, h)
  | .scope c, ts, h => evC call sp n c ts h
  | .ret, ts, h => some (.ret, ts, h)

def widO (sz : Option Nat) (v : V) : V := match sz with
  | some n => widV n v
  | none => v

def evRes (ts : List V) (h : List Blk) : List RRes → Option (List V)
  | [] => some []
  | .tmp t sz :: r => (evRes ts h r).map (widO sz (ts.getD t (.d (.tup []))) :: ·)
  | .cell t ag n :: r => match loadV ag n h (ts.getD t (.d (.tup []))), evRes ts h r with
    | some v, some vs => some (v :: vs)
    | _, _ => none

def mkTup (vs : List V) : V := match allD vs with
  | some ds => .d (.tup ds)
  | none => .tup vs

def mkRes : List V → V
  | [v] => v
  | vs => mkTup vs

def evBody (call : CallT) (sp : SpecT) (n : Nat) (rf : RF) (args : List V) (h : List Blk) : Option (Out × List Blk) :=
  match evC call sp n rf.code (args ++ List.replicate (rf.ntmps - args.length) (.d (.tup []))) h with
  | some (.nor, ts, h') | some (.ret, ts, h') => (evRes ts h' rf.res).map fun vs => (.ret ((compact h.length [mkRes vs] h').1.headD (.d .undef)), (compact h.length [mkRes vs] h').2)
  | some (.pan v, _, h') => some (.pan v, h')
  | _ => none

/-- Calls: functions entered in place, with so many rounds for each loop, and so many frames at hand. -/
def evF (body : FuncId → Option RF) (sp : SpecT) (n : Nat) : Nat → CallT
  | 0, _, _, _ => none
  | d + 1, f, args, h => match body f with
    | some rf => evBody (evF body sp n d) sp n rf args h
    | none => none

/-! ### From the machine's code -/

def compRI (P : Program) (G : Glob) (isS : FuncId → Bool) : Op → Option RI
  | .call { callee := .value (.func f), args, argTypes } => if isS f then (compXsW G (argTypes.toList.map (slT P)) args.toList).map (.scall f) else (compXsW G (argTypes.toList.map (slT P)) args.toList).map (.call (.c (.fn f [] [])))
  | .call { callee := .value x, args, argTypes } => match compX G x, compXsW G (argTypes.toList.map (slT P)) args.toList with
    | some a, some b => some (.call a b)
    | _, _ => none
  | .panic x => (compX G x).map .pan
  | o => (compOp P G o).map .op

def compGuard (ops : Array Oper) : Option (Nat × Bool) → Option (Option (Nat × Bool))
  | none => some none
  | some (j, b) => match (ops[j]?).bind (·.dst) with
    | some t => some (some (t, b))
    | none => none

def compO (P : Program) (G : Glob) (isS : FuncId → Bool) (ops : Array Oper) (o : Oper) : Option RO :=
  match compRI P G isS o.op, compGuard ops o.guard with
  | some r, some g => some { dst := o.dst, ins := r, guard := g }
  | _, _ => none

def compOs (P : Program) (G : Glob) (isS : FuncId → Bool) (ops : Array Oper) : List Oper → Option (List RO)
  | [] => some []
  | o :: r => match compO P G isS ops o, compOs P G isS ops r with
    | some a, some b => some (a :: b)
    | _, _ => none

/-! ### Regions that draw their order -/

/-- 0: leaves the memory alone and does not read it; 1: reads it; 2: may change it; 3: makes a block, and does no more. -/
def RI.cls : RI → Nat
  | .op (.load ..) => 1
  | .op (.store ..) | .op (.app ..) | .op (.allocA ..) | .op (.allocR ..) => 2
  | .op (.alloc ..) | .op (.box ..) | .op (.mksl ..) => 3
  | .op _ => 0
  | .scall .. => 0
  | .call .. => 2
  | .pan .. => 4

def RX.tm : RX → List Nat
  | .t i => [i]
  | .c _ => []

def optX : Option RX → List RX
  | none => []
  | some x => [x]

def ROp.xs : ROp → List RX
  | .mv x | .box x | .load _ _ x | .nilc x | .fadr _ x | .fld _ _ _ x | .isnil _ _ x | .un _ x | .cvi _ x | .cvs x | .cvsb _ x | .cvbs x | .mki _ x | .ext _ x | .len x | .lenS x => [x]
  | .pick c a b => [c, a, b]
  | .alloc _ | .allocA _ _ | .allocR _ _ | .lenc _ => []
  | .build _ parts | .bslice _ _ _ parts => parts.map (·.2.2)
  | .store _ x y | .bin _ x y | .eqs _ _ x y | .eqb _ x y | .app _ _ x y => [x, y]
  | .iadrA _ _ x i | .iadrS _ x i | .idxA _ _ _ x i | .idxS x i => [x, i]
  | .slS _ x lo hi mx | .slA _ _ x lo hi mx => x :: (optX lo ++ optX hi ++ optX mx)
  | .slT x lo hi => x :: (optX lo ++ optX hi)
  | .mkf _ a b => a ++ b
  | .mksl _ _ _ a b => [a, b]
  | .min l | .max l => l

def RI.xs : RI → List RX
  | .op r => r.xs
  | .call f args => f :: args
  | .scall _ args => args
  | .pan x => [x]

/-- The slots that an operation reads. -/
def RO.reads (o : RO) : List Nat := o.ins.xs.flatMap RX.tm ++ (match o.guard with | some (t, _) => [t] | none => [])

def RO.offR (o : RO) (d : Option Nat) : Bool := match d with
  | some t => !o.reads.contains t
  | none => true

def RO.offW (x y : RO) : Bool := match x.dst, y.dst with
  | some a, some b => a != b
  | _, _ => true

def RI.isA : RI → Option Nat
  | .op (.allocA id _) => some id
  | .op (.allocR r _) => some r
  | _ => none

def RI.isCall : RI → Bool
  | .call .. => true
  | _ => false

def RI.isLoad : RI → Bool
  | .op (.load ..) => true
  | _ => false

def RI.isApp : RI → Bool
  | .op (.app ..) => true
  | _ => false

/-- A block that was told of may be made before another operation, unless this one is a call, or makes the same block. -/
def RI.early (x y : RI) : Bool := match y.isA with
  | some b => !x.isCall && x.isA != some b
  | none => false

/-- The first of two operations may be done after the second one. -/
def RO.comm (x y : RO) : Bool :=
  x.ins.cls ≤ 3 && y.ins.cls ≤ 3 && (x.ins.cls == 0 || y.ins.cls == 0 || (x.ins.cls ≤ 1 && (y.ins.cls ≤ 1 || y.ins.cls == 3)) || x.ins.early y.ins || (x.ins.isLoad && y.ins.isApp) || (x.ins.isApp && y.ins.isLoad)) && y.offR x.dst && x.offR y.dst && x.offW y

/-- Of an operation those that come before it in every order, as a set of bits. -/
def bef (acc : List Nat) (o : Oper) : Nat :=
  o.after.toList.foldl (fun s e => if Region.binds .any e then s ||| ((1 <<< e.on) ||| acc.getD e.on 0) else s) 0

def befs : List Nat → List Oper → List Nat
  | acc, [] => acc
  | acc, o :: r => befs (acc ++ [bef acc o]) r

def commAll (b : Nat) (y : RO) : Nat → List RO → Bool
  | _, [] => true
  | k, x :: r => (b.testBit k || x.comm y) && commAll b y (k + 1) r

def parGo (rs : List RO) : List RO → List Nat → Nat → Bool
  | y :: r, b :: bs, j => commAll b y 0 (rs.take j) && parGo rs r bs (j + 1)
  | [], _, _ => true
  | _, [], _ => false

def parOk (ops : Array Oper) (rs : List RO) : Bool :=
  (ops.toList.zipIdx.all fun (o, i) => o.after.toList.all fun e => !Region.binds .any e || e.on < i) && rs.all (fun r => r.ins.cls ≤ 3) && parGo rs rs (befs [] ops.toList) 0

/-- Variables of a region are told of before it begins. -/
def numO (k : Nat) (o : Oper) (r : RO) : RO := match o.op, r.ins with
  | .alloc _, .op (.alloc z) => { r with ins := .op (.allocR k z) }
  | _, .op (.allocR _ _) | _, .op (.allocA _ _) => { r with ins := .pan (.c .undef) }
  | _, _ => r

def nextA (k : Nat) (o : Oper) : Nat := match o.op with
  | .alloc _ => k + 1
  | _ => k

def numA : Nat → List Oper → List RO → List RO
  | k, o :: os, r :: rs => numO k o r :: numA (nextA k o) os rs
  | _, _, rs => rs

def cntA : List Oper → Nat
  | [] => 0
  | o :: r => match o.op with
    | .alloc _ => cntA r + 1
    | _ => cntA r

/-- The first region of a piece of code. -/
def regOf : Code → Nat
  | .region id _ _ => id
  | .seq a _ => regOf a
  | .cond _ a _ => regOf a
  | .block _ c => regOf c
  | .loop c => regOf c
  | .scope c => regOf c
  | _ => 0

def compC (P : Program) (G : Glob) (isS : FuncId → Bool) (K : Nat → TI) (T : Nat → Option TI) : Code → Option RC
  | .skip => some .skip
  | .region _ ops false => (compOs P G isS ops ops.toList).map .ops
  | .region _ ops true => match compOs P G isS ops ops.toList with
    | some rs => if parOk ops (numA 0 ops.toList rs) then some (.par (cntA ops.toList) (numA 0 ops.toList rs)) else none
    | none => none
  | .seq a b => match compC P G isS K T a, compC P G isS K T b with
    | some x, some y => match T (regOf b) with
      | some ti => some (.seq (.tidy ti x) y)
      | none => some (.seq x y)
    | _, _ => none
  | .cond c a b => match compX G c, compC P G isS K T a, compC P G isS K T b with
    | some z, some x, some y => some (.cond z x y)
    | _, _, _ => none
  | .block id c => (compC P G isS K T c).map (.block id)
  | .loop c => (compC P G isS K T c).map (.loop (K (regOf c)))
  | .exit id => some (.exit id)
  | .scope c => (compC P G isS K T c).map .scope
  | .label _ => some .skip
  | .ret => some .ret
  | _ => none

def compRes (P : Program) : List ResultVar → List TypeId → Option (List RRes)
  | [], _ => some []
  | .tmp t :: r, tys => (compRes P r tys.tail).map (.tmp t (tys.head?.bind (slT P)) :: ·)
  | .cell t ty :: r, tys => match agT P ty, szT P ty, compRes P r tys.tail with
    | some g, some n, some x => some (.cell t g n :: x)
    | _, _, _ => none

def compF (P : Program) (G : Glob) (isS : FuncId → Bool) (K : Nat → TI) (T : Nat → Option TI) (fn : Func) : Option RF :=
  match fn.body with
  | none => none
  | some c => if fn.name == "runtime.NumGoroutine" then none else
    match compC P G isS K T c, compRes P fn.results.toList fn.resultTypes.toList with
    | some x, some r => some { ntmps := fn.ntmps, res := r, code := x }
    | _, _ => none

end Go.Ev
