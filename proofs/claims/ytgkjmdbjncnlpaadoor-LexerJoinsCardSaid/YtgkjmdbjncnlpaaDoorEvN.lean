/- From the machine's operations to those with all laid open; what these say holds of those. -/
import Derived.Test.YtgkjmdbjncnlpaaDoorEvL
namespace Go.Ev
set_option linter.unusedVariables false
set_option linter.unusedSimpArgs false

abbrev Glob := Nat → Option (List D)

def compX (G : Glob) : Operand → Option RX
  | .tmp t => some (.t t)
  | .const v => (D.ofV 4 v).map .c
  | .global g => (G g).map fun cs => .c (.rp cs)
  | .func f => some (.c (.fn f [] []))

def RX.ev (ts : List V) : RX → V
  | .t i => ts.getD i (.d (.tup []))
  | .c x => .d x

def compXs (G : Glob) : List Operand → Option (List RX)
  | [] => some []
  | x :: xs => match compX G x, compXs G xs with
    | some a, some b => some (a :: b)
    | _, _ => none

def compXo (G : Glob) : Option Operand → Option (Option RX)
  | none => some none
  | some x => (compX G x).map some

/-- A constant where a slice is wanted. -/
def RX.wid (sz : Option Nat) : RX → RX
  | .t i => .t i
  | .c d => .c (d.wid sz)

def slT (P : Program) (t : TypeId) : Option Nat := match P.underlying t with
  | some (.slice el) => szT P el
  | _ => none

def compXsW (G : Glob) : List (Option Nat) → List Operand → Option (List RX)
  | _, [] => some []
  | ls, x :: xs => match compX G x, compXsW G ls.tail xs with
    | some a, some b => some (a.wid (ls.headD none) :: b)
    | _, _ => none

/-- Parts of a literal, with their places. -/
def compParts (G : Glob) (ls : List (Option Nat)) (place : Nat → Option (Nat × Nat)) : List (Nat × Operand) → Option (List (Nat × Nat × RX))
  | [] => some []
  | (i, x) :: r => match place i, compX G x, compParts G ls place r with
    | some (a, b), some y, some z => some ((a, b, y.wid ((ls[a]?).getD none)) :: z)
    | _, _, _ => none

def D.isNilOf : NK → D → Bool
  | .ptr, .nilp | .sl, .nils | .mp, .nilm | .fn, .nilf | .ifc, .nili => true
  | _, _ => false

def nilX (k : NK) (x : Operand) (a : RX) : Bool := match isConstX x, a with
  | true, .c d => d.isNilOf k
  | _, _ => false

def compNil (k : NK) (neg : Bool) (x y : Operand) (a b : RX) : Option ROp :=
  if nilX k y b then some (.isnil k neg a) else if nilX k x a then some (.isnil k neg b) else none

def compEq (P : Program) (neg : Bool) (t : TypeId) (x y : Operand) (a b : RX) : Option ROp :=
  match P.underlying t with
  | some .bool => some (.eqb neg a b)
  | some (.struct _) => (planTop P t).map fun p => .eqs neg p a b
  | _ => match nkT P t with
    | some k => compNil k neg x y a b
    | none => none

def compBin (P : Program) (G : Glob) (op : BinOp) (t : TypeId) (x y : Operand) : Option ROp :=
  match compX G x, compX G y with
  | some a, some b =>
    match P.underlying t with
    | some (.int _) | some .string => some (.bin op a b)
    | _ => match op with
      | .eql => compEq P false t x y a b
      | .neq => compEq P true t x y a b
      | _ => none
  | _, _ => none

def compCv (P : Program) (src dst : TypeId) (a : RX) : Option ROp :=
  match P.underlying src, P.underlying dst with
  | some (.int _), some (.int k) => some (.cvi k a)
  | some .string, some .string => some (.cvs a)
  | some .string, some (.slice e) => match P.underlying e with
    | some (.int .u8) => some (.cvsb 1 a)
    | _ => none
  | some (.slice e), some .string => match P.underlying e with
    | some (.int .u8) => some (.cvbs a)
    | _ => none
  | _, _ => none

def compSl (P : Program) (t : TypeId) (a : RX) (lo hi mx : Option RX) : Option ROp :=
  match P.underlying t with
  | some (.slice e) => (szT P e).map fun n => .slS n a lo hi mx
  | some (.array k e) => (szT P e).map fun n => .slA k n a lo hi mx
  | some .string => if mx.isNone then some (.slT a lo hi) else none
  | _ => none

def compIa (P : Program) (t : TypeId) (a i : RX) : Option ROp :=
  match P.underlying t with
  | some (.slice e) => (szT P e).map fun n => .iadrS n a i
  | some (.array k e) => (szT P e).map fun n => .iadrA k n a i
  | _ => none

def compIx (P : Program) (t : TypeId) (a i : RX) : Option ROp :=
  match P.underlying t with
  | some (.array k e) => match szT P e, agT P e with
    | some n, some g => some (.idxA g k n a i)
    | _, _ => none
  | some .string => some (.idxS a i)
  | _ => none

def fieldT (P : Program) (t : TypeId) (j : Nat) : Option Field := match P.underlying t with
  | some (.struct fs) => fs[j]?
  | _ => none

def compFa (P : Program) (t : TypeId) (a : RX) (j : Nat) : Option ROp :=
  match fieldT P t j with
  | some f => match szT P f.type with
    | some n => if n = 0 then none else some (.fadr f.offset a)
    | none => none
  | none => none

def compFd (P : Program) (t : TypeId) (a : RX) (j : Nat) : Option ROp :=
  match fieldT P t j with
  | some f => match szT P f.type, agT P f.type with
    | some n, some g => some (.fld g f.offset n a)
    | _, _ => none
  | none => none

def cellsT (P : Program) (t : TypeId) : Option (List D) := (zeroT P t).bind D.cellsOf

def compBuild (P : Program) (G : Glob) (t : TypeId) (parts : List (Nat × Operand)) : Option ROp :=
  match P.underlying t, zeroT P t with
  | some (.struct fs), some (.agg zero) => match placesS P fs with
    | some places => (compParts G (leavesT P 6 t) (places[·]?) parts).map fun qs => .build zero qs
    | none => none
  | some (.array _ e), some (.agg zero) => match szT P e with
    | some n => (compParts G (leavesT P 6 t) (fun i => some (i * n, n)) parts).map fun qs => .build zero qs
    | none => none
  | _, _ => none

def compBs (P : Program) (G : Glob) (t : TypeId) (len : Nat) (parts : List (Nat × Operand)) : Option ROp :=
  match P.underlying t with
  | some (.slice e) => match cellsT P e, szT P e with
    | some zc, some n => if zc.length = n ∧ len * n ≤ 16777216 then (compParts G ((List.replicate len (leavesT P 6 e)).flatten) (fun i => some (i * n, n)) parts).map fun qs => .bslice n len ((List.replicate len zc).flatten) qs else none
    | _, _ => none
  | _ => none

def compMk (P : Program) (t : TypeId) (l c : RX) : Option ROp :=
  match P.underlying t with
  | some (.slice e) => match cellsT P e, P.info? e with
    | some zc, some i => if zc.length = i.size then some (.mksl i.size i.bytes zc l c) else none
    | _, _ => none
  | _ => none

def compApp (P : Program) (t xt : TypeId) (a b : RX) : Option ROp :=
  match P.underlying t with
  | some (.slice e) => match cellsT P e, P.info? e with
    | some zc, some i => if zc.length = i.size ∧ srcT P xt then some (.app i.size i.bytes a b) else none
    | _, _ => none
  | _ => none

def compLen (P : Program) (t : TypeId) (a : RX) : Option ROp :=
  match P.underlying t with
  | some .string => some (.lenS a)
  | some (.slice _) => some (.len a)
  | some (.array n _) => some (.lenc n)
  | _ => none

def compBi (P : Program) (G : Glob) (b : Builtin) (ts : List TypeId) (xs : List RX) : Option ROp :=
  match b, ts, xs with
  | .len, [t], [a] => compLen P t a
  | .append, [t, xt], [a, b] => compApp P t xt a b
  | .min, _, xs => some (.min xs)
  | .max, _, xs => some (.max xs)
  | _, _, _ => none

def compIf (P : Program) (t : TypeId) (a : RX) : Option ROp := match P.underlying t with
  | some (.interface _) | none => none
  | _ => some (.mki t a)

/-- One operation that is no call of a Go function. -/
def compOp (P : Program) (G : Glob) : Op → Option ROp
  | .move x | .assign x => (compX G x).map .mv
  | .pick c a b => match compX G c, compX G a, compX G b with
    | some c, some a, some b => some (.pick c a b)
    | _, _, _ => none
  | .alloc t => (cellsT P t).map .alloc
  | .box t x => (compX G x).map fun a => .box (a.wid (slT P t))
  | .build t parts => compBuild P G t parts.toList
  | .buildSlice t len parts => compBs P G t len parts.toList
  | .load t x => match agT P t, szT P t, compX G x with
    | some g, some n, some a => some (.load g n a)
    | _, _, _ => none
  | .store t x y => match szT P t, compX G x, compX G y with
    | some n, some a, some b => some (.store n a (b.wid (slT P t)))
    | _, _, _ => none
  | .nilCheck x => (compX G x).map .nilc
  | .binOp op t x y _ => compBin P G op t x y
  | .unOp op _ x => (compX G x).map (.un op)
  | .convert src dst x => (compX G x).bind (compCv P src dst)
  | .makeInterface t x => (compX G x).bind (compIf P t)
  | .makeFunc (.func f) first cap => match compXs G first.toList, compXs G cap.toList with
    | some a, some b => some (.mkf f a b)
    | _, _ => none
  | .makeSlice t l c => match compX G l, compX G c with
    | some a, some b => compMk P t a b
    | _, _ => none
  | .slice t x lo hi mx => match compX G x, compXo G lo, compXo G hi, compXo G mx with
    | some a, some l, some u, some m => compSl P t a l u m
    | _, _, _, _ => none
  | .fieldAddr t x j => (compX G x).bind fun a => compFa P t a j
  | .field t x j => (compX G x).bind fun a => compFd P t a j
  | .indexAddr t x i => match compX G x, compX G i with
    | some a, some b => compIa P t a b
    | _, _ => none
  | .index t x i => match compX G x, compX G i with
    | some a, some b => compIx P t a b
    | _, _ => none
  | .extract x i => (compX G x).map (.ext i)
  | .call { callee := .builtin b, args, argTypes } => (compXs G args.toList).bind (compBi P G b argTypes.toList)
  | _ => none

end Go.Ev
