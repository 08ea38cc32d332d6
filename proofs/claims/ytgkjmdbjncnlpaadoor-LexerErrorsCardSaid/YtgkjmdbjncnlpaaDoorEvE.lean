/- Operations with all that the types say laid open, and what they do to abstract values. -/
import Derived.Test.YtgkjmdbjncnlpaaDoorEvD
namespace Go.Ev
set_option linter.unusedVariables false

inductive RX where
  | t (i : Nat)
  | c (x : D)
  deriving Inhabited

/-- Kinds of types that have a nil. -/
inductive NK where
  | ptr | sl | mp | fn | ifc
  deriving Inhabited, DecidableEq

/-- Kinds of leaves. -/
inductive LK where
  | b | i | s
  deriving Inhabited, DecidableEq

inductive ROp where
  | mv (x : RX)
  | pick (c a b : RX)
  | alloc (zero : List D)
  | allocR (r : Nat) (zero : List D)
  | allocA (id : Nat) (zero : List D)
  | box (x : RX)
  | build (zero : List D) (parts : List (Nat × Nat × RX))
  | bslice (sz len : Nat) (zero : List D) (parts : List (Nat × Nat × RX))
  | load (ag : Bool) (n : Nat) (x : RX)
  | store (n : Nat) (x y : RX)
  | nilc (x : RX)
  | fadr (off : Nat) (x : RX)
  | iadrA (len sz : Nat) (x i : RX)
  | iadrS (sz : Nat) (x i : RX)
  | fld (ag : Bool) (off n : Nat) (x : RX)
  | idxA (ag : Bool) (len sz : Nat) (x i : RX)
  | idxS (x i : RX)
  | slS (sz : Nat) (x : RX) (lo hi mx : Option RX)
  | slT (x : RX) (lo hi : Option RX)
  | slA (len sz : Nat) (x : RX) (lo hi mx : Option RX)
  | bin (op : BinOp) (x y : RX)
  | eqs (neg : Bool) (plan : List (Nat × LK)) (x y : RX)
  | eqb (neg : Bool) (x y : RX)
  | isnil (k : NK) (neg : Bool) (x : RX)
  | un (op : UnOp) (x : RX)
  | cvi (k : IntKind) (x : RX)
  | cvs (x : RX)
  | cvsb (bytes : Nat) (x : RX)
  | cvbs (x : RX)
  | mki (t : TypeId) (x : RX)
  | mkf (f : FuncId) (first cap : List RX)
  | mksl (sz bytes : Nat) (zero : List D) (len cap : RX)
  | ext (i : Nat) (x : RX)
  | len (x : RX)
  | lenS (x : RX)
  | lenc (n : Nat)
  | app (sz bytes : Nat) (x y : RX)
  | min (l : List RX)
  | max (l : List RX)
  deriving Inhabited

def cellD : D → Bool
  | .agg _ | .tup _ | .undef => false
  | _ => true

def cellV : V → Bool
  | .d x => cellD x
  | .agg _ | .tup _ => false
  | _ => true

/-- The cells of a value in memory. -/
def V.cellsOf : V → Option (List V)
  | .d (.agg cs) => if cs.all cellD then some (cs.map .d) else none
  | .agg cs => if cs.all cellV then some cs else none
  | v => if cellV v then some [v] else none

def allD : List V → Option (List D)
  | [] => some []
  | .d x :: r => (allD r).map (x :: ·)
  | _ :: _ => none

def mkAgg (cs : List V) : V := match allD cs with
  | some ds => .d (.agg ds)
  | none => .agg cs

def splice (cs : List V) (off : Nat) : List V → List V
  | [] => cs
  | x :: xs => splice (cs.set off x) (off + 1) xs

def fillV (cs : List V) : List (Nat × Nat × V) → Option (List V)
  | [] => some cs
  | (off, size, x) :: r => match x.cellsOf with
    | some c => if c.length = size ∧ off + size ≤ cs.length then fillV (splice cs off c) r else none
    | none => none

def V.int? : V → Option Int
  | .d (.int _ n) => some n
  | _ => none

def loadV (ag : Bool) (n : Nat) (h : List Blk) : V → Option V
  | .ptr id off => match h[id]? with
    | some (.cells cs) => if ag then (if ((cs.drop off).take n).length = n then some (mkAgg ((cs.drop off).take n)) else none) else cs[off]?
    | _ => none
  | .d (.rp cells) => if ag then (if (cells.take n).length = n then some (.d (.agg (cells.take n))) else none) else cells.head?.map .d
  | _ => none

def storeV (n : Nat) (h : List Blk) (y : V) : V → Option (List Blk)
  | .ptr id off => match h[id]?, y.cellsOf with
    | some (.cells cs), some c => if c.length = n ∧ off + n ≤ cs.length then some (h.set id (.cells (splice cs off c))) else none
    | _, _ => none
  | _ => none

def partD (ag : Bool) (off n : Nat) (cs : List D) : Option V :=
  if ag then (if ((cs.drop off).take n).length = n then some (.d (.agg ((cs.drop off).take n))) else none) else (cs[off]?).map .d

def partV (ag : Bool) (off n : Nat) (cs : List V) : Option V :=
  if ag then (if ((cs.drop off).take n).length = n then some (mkAgg ((cs.drop off).take n)) else none) else cs[off]?

def fldV (ag : Bool) (off n : Nat) : V → Option V
  | .d (.agg cs) => partD ag off n cs
  | .agg cs => partV ag off n cs
  | _ => none

def bnd (o : Option Int) (d : Option Nat) (y : Nat) : Option Nat :=
  match o with
  | some z => if 0 ≤ z ∧ z ≤ y then some z.toNat else none
  | none => d

/-- Bounds of a slice expression: low, high, max. -/
def bnds (len cap : Nat) (lo hi mx : Option Int) : Option (Nat × Nat × Nat) :=
  match bnd mx (some cap) cap with
  | none => none
  | some m =>
    match bnd hi (if mx.isSome ∨ ¬ len ≤ cap then none else some len) m with
    | none => none
    | some h => match bnd lo (some 0) h with
      | none => none
      | some l => some (l, h, m)

def optInt (ev : RX → V) : Option RX → Option (Option Int)
  | none => some none
  | some x => (ev x).int?.map some

/-- Firm lists: their room is known only where there is none. -/
def slLst (sz n : Nat) (cells : List D) (ex : Bool) (lo hi mx : Option Int) : Option V :=
  match bnds n n lo hi mx with
  | none => none
  | some (l, h, m) => some (.d (.lst sz (h - l) ((cells.drop (l * sz)).take ((h - l) * sz)) (if mx.isSome then m == h else ex && h == n)))

def slV (sz : Nat) (lo hi mx : Option Int) : V → Option V
  | .d (.lst sz' n cells ex) => if sz' = sz then slLst sz n cells ex lo hi mx else none
  | .gs _ sz' n cells => if sz' = sz then slLst sz n cells false lo hi mx else none
  | .d .nils => match bnds 0 0 lo hi mx with | none => none | some _ => some (.d .nils)
  | .sl id off sz' n cap => if sz' = sz then (match bnds n cap lo hi mx with
    | none => none
    | some (l, h, m) => some (.sl id (if m = l then off else off + l * sz) sz (h - l) (m - l))) else none
  | _ => none

def slA (len sz : Nat) (lo hi mx : Option Int) : V → Option V
  | .ptr id off => match bnds len len lo hi mx with
    | none => none
    | some (l, h, m) => some (.sl id (if m = l then off else off + l * sz) sz (h - l) (m - l))
  | _ => none

def iadrV (sz : Nat) (i : Int) : V → Option V
  | .d (.lst sz' n cells _) => if sz' = sz ∧ 0 ≤ i ∧ i < n then some (.d (.rp (cells.drop (i.toNat * sz)))) else none
  | .gs _ sz' n cells => if sz' = sz ∧ 0 ≤ i ∧ i < n then some (.d (.rp (cells.drop (i.toNat * sz)))) else none
  | .sl id off sz' n _ => if sz' = sz ∧ 0 ≤ i ∧ i < n then some (.ptr id (off + i.toNat * sz)) else none
  | _ => none

def fadrV (off : Nat) : V → Option V
  | .ptr id o => some (.ptr id (o + off))
  | .d (.rp cells) => some (.d (.rp (cells.drop off)))
  | _ => none

def binD (op : BinOp) : D → D → Option D
  | .int k a, .int k' b =>
    match op with
    | .shl => if b < 0 then none else some (.int k (k.wrap (a * 2 ^ (min b.toNat k.bits))))
    | .shr => if b < 0 then none else some (.int k (a.fdiv (2 ^ (min b.toNat k.bits))))
    | _ => if k = k' then (match op with
      | .add => some (.int k (k.wrap (a + b)))
      | .sub => some (.int k (k.wrap (a - b)))
      | .mul => some (.int k (k.wrap (a * b)))
      | .quo => if b = 0 then none else some (.int k (k.wrap (a.tdiv b)))
      | .rem => if b = 0 then none else some (.int k (a.tmod b))
      | .and => some (.int k (k.wrap (BitVec.ofInt k.bits a &&& BitVec.ofInt k.bits b).toNat))
      | .or => some (.int k (k.wrap (BitVec.ofInt k.bits a ||| BitVec.ofInt k.bits b).toNat))
      | .xor => some (.int k (k.wrap (BitVec.ofInt k.bits a ^^^ BitVec.ofInt k.bits b).toNat))
      | .andNot => some (.int k (k.wrap (BitVec.ofInt k.bits a &&& ~~~(BitVec.ofInt k.bits b)).toNat))
      | .eql => some (.bool (a == b))
      | .neq => some (.bool (a != b))
      | .lss => some (.bool (a < b))
      | .leq => some (.bool (a ≤ b))
      | .gtr => some (.bool (a > b))
      | .geq => some (.bool (a ≥ b))
      | _ => none) else none
  | .str a, .str b =>
    match op with
    | .add => if ((a.length + b.length : Nat) : Int) ≤ 9223372036854775807 then some (.str (a ++ b)) else none
    | .eql => some (.bool (a == b))
    | .neq => some (.bool !(a == b))
    | .lss => some (.bool (Op.bytesLess a b))
    | .leq => some (.bool (Op.bytesLess a b || a == b))
    | .gtr => some (.bool !(Op.bytesLess a b || a == b))
    | .geq => some (.bool !(Op.bytesLess a b))
    | _ => none
  | _, _ => none

def leafEq : LK → D → D → Option Bool
  | .i, .int k a, .int k' b => if k = k' then some (a == b) else none
  | .s, .str a, .str b => some (a == b)
  | .b, .bool a, .bool b => some (a == b)
  | _, _, _ => none

def planEq (xs ys : List D) : List (Nat × LK) → Option Bool
  | [] => some true
  | (i, k) :: r => match xs[i]?, ys[i]? with
    | some x, some y => match leafEq k x y with
      | some true => planEq xs ys r
      | some false => some false
      | none => none
    | _, _ => none

/-- Equality of two structs of one comparable type. -/
def eqsV (plan : List (Nat × LK)) : V → V → Option Bool
  | .d (.agg a), .d (.agg b) => planEq a b plan
  | _, _ => none

/-- Is it nil? -/
def isNil : V → Option Bool
  | .d .nilp | .d .nils | .d .nilm | .d .nilf | .d .nili => some true
  | .d (.rp _) | .d (.fn ..) | .d (.ifc ..) | .ptr .. | .sl .. | .fn .. | .ifc .. => some false
  | _ => none

def isNilK : NK → V → Option Bool
  | .ptr, .d .nilp | .sl, .d .nils | .mp, .d .nilm | .fn, .d .nilf | .ifc, .d .nili => some true
  | .sl, .d (.lst _ n _ _) | .sl, .gs _ _ n _ => if n = 0 then none else some false
  | .ptr, .d (.rp _) | .ptr, .ptr .. | .sl, .sl .. | .fn, .d (.fn ..) | .fn, .fn .. | .ifc, .d (.ifc ..) | .ifc, .ifc .. => some false
  | _, _ => none

def unD (op : UnOp) : D → Option D
  | .int k n => match op with
    | .neg => some (.int k (k.wrap (0 - n)))
    | _ => none
  | .bool b => match op with
    | .not => some (.bool !b)
    | _ => none
  | _ => none

/-- A list's plain elements. -/
def V.list? : V → Option (Nat × List D)
  | .d (.lst _ n cells _) => some (n, cells)
  | .gs _ _ n cells => some (n, cells)
  | .d .nils => some (0, [])
  | _ => none

/-- The bytes of plain cells. -/
def bytesOf : List D → Option (List UInt8)
  | [] => some []
  | .int .u8 n :: r => if 0 ≤ n ∧ n < 256 then (bytesOf r).map (UInt8.ofNat n.toNat :: ·) else none
  | _ :: _ => none

def bytesD (l : List UInt8) : List D := l.map fun b => .int .u8 b.toNat

def appV (sz bytes : Nat) (h : List Blk) (x : V) (m : Nat) (ys : List D) : Option (V × List Blk) :=
  if ys.all cellD = false ∨ ys.length ≠ m * sz then none else
  match x with
  | .d .nils => if m * bytes ≤ 140737488355328 ∧ m ≤ 9223372036854775807 then some (.gs h.length sz m ys, h ++ [.tip sz m]) else none
  | .d (.lst sz' n cells ex) =>
    if sz' = sz ∧ ex = true then (if n ≠ 0 ∧ m = 0 then some (x, h) else if (n + m) * bytes ≤ 140737488355328 ∧ n + m ≤ 9223372036854775807 then some (.gs h.length sz (n + m) (cells ++ ys), h ++ [.tip sz (n + m)]) else none) else none
  | .gs id sz' n cells =>
    match h[id]? with
    | some (.tip sz'' n') => if sz' = sz ∧ sz'' = sz ∧ n' = n ∧ (n + m) * bytes ≤ 140737488355328 ∧ n + m ≤ 9223372036854775807 then some (.gs id sz (n + m) (cells ++ ys), h.set id (.tip sz (n + m))) else none
    | _ => none
  | _ => none

def min2D : Option D → V → Option D
  | some (.int k a), .d (.int _ b) => some (.int k (if b < a then b else a))
  | _, _ => none

def max2D : Option D → V → Option D
  | some (.int k a), .d (.int _ b) => some (.int k (if b > a then b else a))
  | _, _ => none

def foldMin : List V → Option D
  | .d (.int k a) :: r => r.foldl min2D (some (.int k a))
  | _ => none

def foldMax : List V → Option D
  | .d (.int k a) :: r => r.foldl max2D (some (.int k a))
  | _ => none

def mkFn (f : FuncId) (first cap : List V) : V := match allD first, allD cap with
  | some a, some b => .d (.fn f a b)
  | _, _ => .fn f first cap

def ev1 (o : ROp) (ev : RX → V) (h : List Blk) : Option (V × List Blk) :=
  match o with
  | .mv x => some (ev x, h)
  | .pick c a b => match ev c with | .d (.bool t) => some (if t then ev a else ev b, h) | _ => none
  | .alloc zero => some (.ptr h.length 0, h ++ [.cells (zero.map .d)])
  | .allocR _ _ => none
  | .allocA id zero => match h[id]? with | some .ghost => some (.ptr id 0, h.set id (.cells (zero.map .d))) | _ => none
  | .box x => match (ev x).cellsOf with | some cs => some (.ptr h.length 0, h ++ [.cells cs]) | none => none
  | .build zero parts => match fillV (zero.map .d) (parts.map fun (a, b, x) => (a, b, ev x)) with | some cs => some (mkAgg cs, h) | none => none
  | .bslice sz len zero parts => match fillV (zero.map .d) (parts.map fun (a, b, x) => (a, b, ev x)) with
    | some cs => match allD cs with | some ds => if ds.all cellD ∧ ds.length = len * sz then some (.d (.lst sz len ds true), h) else none | none => none
    | none => none
  | .load ag n x => (loadV ag n h (ev x)).map fun v => (v, h)
  | .store n x y => (storeV n h (ev y) (ev x)).map fun h' => (.d (.tup []), h')
  | .nilc x => match isNil (ev x) with | some false => some (ev x, h) | _ => none
  | .fadr off x => (fadrV off (ev x)).map fun v => (v, h)
  | .iadrA len sz x i => match (ev i).int? with
    | some n => if 0 ≤ n ∧ n < len then (fadrV (n.toNat * sz) (ev x)).map fun v => (v, h) else none
    | none => none
  | .iadrS sz x i => match (ev i).int? with | some n => (iadrV sz n (ev x)).map fun v => (v, h) | none => none
  | .fld ag off n x => (fldV ag off n (ev x)).map fun v => (v, h)
  | .idxA ag len sz x i => match (ev i).int? with
    | some n => if 0 ≤ n ∧ n < len then (fldV ag (n.toNat * sz) sz (ev x)).map fun v => (v, h) else none
    | none => none
  | .idxS x i => match ev x, (ev i).int? with
    | .d (.str l), some n => if 0 ≤ n then (l[n.toNat]?).map fun b => (.d (.int .u8 b.toNat), h) else none
    | _, _ => none
  | .slS sz x lo hi mx => match optInt ev lo, optInt ev hi, optInt ev mx with
    | some l, some u, some m => (slV sz l u m (ev x)).map fun v => (v, h)
    | _, _, _ => none
  | .slA len sz x lo hi mx => match optInt ev lo, optInt ev hi, optInt ev mx with
    | some l, some u, some m => (slA len sz l u m (ev x)).map fun v => (v, h)
    | _, _, _ => none
  | .slT x lo hi => match ev x, optInt ev lo, optInt ev hi with
    | .d (.str s), some l, some u => match bnds s.length s.length l u none with
      | some (a, b, _) => some (.d (.str ((s.drop a).take (b - a))), h)
      | none => none
    | _, _, _ => none
  | .bin op x y => match ev x, ev y with | .d a, .d b => (binD op a b).map fun v => (.d v, h) | _, _ => none
  | .eqs neg plan x y => (eqsV plan (ev x) (ev y)).map fun b => (.d (.bool (if neg then !b else b)), h)
  | .eqb neg x y => match ev x, ev y with | .d (.bool a), .d (.bool b) => some (.d (.bool (if neg then !(a == b) else a == b)), h) | _, _ => none
  | .isnil k neg x => (isNilK k (ev x)).map fun b => (.d (.bool (if neg then !b else b)), h)
  | .un op x => match ev x with | .d a => (unD op a).map fun v => (.d v, h) | _ => none
  | .cvi k x => match ev x with | .d (.int _ n) => some (.d (.int k (k.wrap n)), h) | _ => none
  | .cvs x => match ev x with | .d (.str l) => some (.d (.str l), h) | _ => none
  | .cvsb bytes x => match ev x with | .d (.str l) => some (.d (.lst 1 l.length (bytesD l) false), h) | _ => none
  | .cvbs x => match (ev x).list? with | some (m, cs) => (bytesOf cs).bind fun l => if l.length = m ∧ 0 < m then some (.d (.str l), h) else none | none => none
  | .mki t x => match ev x with | .d a => some (.d (.ifc t a), h) | v => some (.ifc t v, h)
  | .mkf f first cap => some (mkFn f (first.map ev) (cap.map ev), h)
  | .mksl sz bytes zero len cap => match ev len, ev cap with
    | .d (.int _ l), .d (.int _ c) => if 0 ≤ l ∧ l ≤ c ∧ c * bytes ≤ 281474976710656 ∧ c ≤ 9223372036854775807 ∧ zero.length = sz then
        some (.sl h.length 0 sz l.toNat c.toNat, h ++ [.cells ((List.replicate c.toNat (zero.map V.d)).flatten)]) else none
    | _, _ => none
  | .ext i x => match ev x with
    | .d (.tup vs) => (vs[i]?).map fun v => (.d v, h)
    | .tup vs => (vs[i]?).map fun v => (v, h)
    | _ => none
  | .lenS x => match ev x with
    | .d (.str l) => some (.d (.int .i64 l.length), h)
    | _ => none
  | .len x => match ev x with
    | .d (.lst _ n _ _) => some (.d (.int .i64 n), h)
    | .d .nils => some (.d (.int .i64 0), h)
    | .gs _ _ n _ => some (.d (.int .i64 n), h)
    | .sl _ _ _ n _ => some (.d (.int .i64 n), h)
    | _ => none
  | .lenc n => some (.d (.int .i64 n), h)
  | .app sz bytes x y => match ev y with
    | .d (.str l) => appV sz bytes h (ev x) l.length (bytesD l)
    | v => match v.list? with | some (m, ys) => appV sz bytes h (ev x) m ys | none => none
  | .min l => (foldMin (l.map ev)).map fun v => (.d v, h)
  | .max l => (foldMax (l.map ev)).map fun v => (.d v, h)

end Go.Ev
