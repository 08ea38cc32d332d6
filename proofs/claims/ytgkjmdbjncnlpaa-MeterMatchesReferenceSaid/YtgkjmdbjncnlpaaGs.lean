/- Counting, changing, reading a meter: what the functions answer, and that they do. -/
import Derived.Test.YtgkjmdbjncnlpaaFs
namespace Go.Proofs.Ytgkjmdbjncnlpaa
open Go.Ev
set_option linter.unusedVariables false
set_option linter.unusedSimpArgs false
set_option maxRecDepth 100000

theorem F18_M (x y : Int) (z : Bool) : F18 [.agg [.int .i64 x, .int .i64 y, .bool z]] = some (.bool (okM x y)) := rfl
theorem F23_M (a p : Int) : F23 [.int .i64 a, .int .i64 p] = some (.int .i64 (tk a p)) := rfl

/-- The register behind a tick. -/
def reg (y : Int) (z : Bool) (a p : Int) : Int := if z then wr (y - tk a p) else wr (y + tk a p)

def cnt (x y : Int) (z : Bool) (a p : Int) : D :=
  if okM x y = true ∧ 0 ≤ a ∧ a ≤ 80 ∧ 0 ≤ p ∧ p ≤ 3 then (if okM x (reg y z a p) = true then .tup [M x (reg y z a p) z, .int .i64 0] else .tup [M 0 0 false, .int .i64 3])
  else .tup [M 0 0 false, .int .i64 1]

def F10 : Ev.Fn
  | [.agg [.int .i64 x, .int .i64 y, .bool z], .int .i64 a, .int .i64 p] => some (cnt x y z a p)
  | _ => none

def swp (x y : Int) (z : Bool) (s r : Int) : D :=
  if okM x y = true ∧ okM s r = true then (if x = s then .tup [M 0 0 false, .int .i64 5] else .tup [M s r false, .int .i64 0]) else .tup [M 0 0 false, .int .i64 1]

def F12 : Ev.Fn
  | [.agg [.int .i64 x, .int .i64 y, .bool z], .int .i64 s, .int .i64 r] => some (swp x y z s r)
  | _ => none

def nrg (x y x' y' : Int) : D :=
  if okM x y = true ∧ okM x' y' = true then (if x = x' then (if y' < y then .tup [.int .i64 0, .int .i64 11] else .tup [.int .i64 (wr ((wr (y' - y)).tdiv 3600)), .int .i64 0]) else .tup [.int .i64 0, .int .i64 4]) else .tup [.int .i64 0, .int .i64 1]

def F14 : Ev.Fn
  | [.agg [.int .i64 x, .int .i64 y, .bool z], .agg [.int .i64 x', .int .i64 y', .bool z']] => some (nrg x y x' y')
  | _ => none

theorem e10 (sp : SpecT) (h18 : sp 18 = some F18) (h19 : sp 19 = some F19) (n : Nat) (x y : Int) (z : Bool) (a p : Int) :
    ∃ h, evF body sp (n + 2) 10 [.d (M x y z), .d (.int .i64 a), .d (.int .i64 p)] [] = some (.ret (.d (cnt x y z a p)), h) := by
  cases hv : okM x y
  · simp [b10, r10, evF, evBody, evC, evOps, evRI, ev1, wantR, putR, RX.ev, V.cellsOf, cellD, cellV, List.replicate, List.set, List.getD, fadrV, iadrV, loadV, storeV, fillV, splice, allD, toDs, V.toD, evRes, mkRes, mkTup, mkAgg, mkFn, V.callee, binD, unD, eqsV, planEq, leafEq, V.int?, V.list?, compact, addNew, V.idsL, V.ids, idsB, Blk.ids, getBs, V.renL, V.ren, Blk.renL, Blk.ren, List.headD, List.length_nil, List.length_cons, h18, h19, F18_M, F19_one, hv, cnt]
  · by_cases h1 : a < 0
    · have h1' : ¬ 0 ≤ a := by omega
      simp [b10, r10, evF, evBody, evC, evOps, evRI, ev1, wantR, putR, RX.ev, V.cellsOf, cellD, cellV, List.replicate, List.set, List.getD, fadrV, iadrV, loadV, storeV, fillV, splice, allD, toDs, V.toD, evRes, mkRes, mkTup, mkAgg, mkFn, V.callee, binD, unD, eqsV, planEq, leafEq, V.int?, V.list?, compact, addNew, V.idsL, V.ids, idsB, Blk.ids, getBs, V.renL, V.ren, Blk.renL, Blk.ren, List.headD, List.length_nil, List.length_cons, h18, h19, F18_M, F19_one, hv, cnt, h1, h1']
    · have h1' : 0 ≤ a := by omega
      by_cases h2 : 80 < a
      · have h2' : ¬ a ≤ 80 := by omega
        simp [b10, r10, evF, evBody, evC, evOps, evRI, ev1, wantR, putR, RX.ev, V.cellsOf, cellD, cellV, List.replicate, List.set, List.getD, fadrV, iadrV, loadV, storeV, fillV, splice, allD, toDs, V.toD, evRes, mkRes, mkTup, mkAgg, mkFn, V.callee, binD, unD, eqsV, planEq, leafEq, V.int?, V.list?, compact, addNew, V.idsL, V.ids, idsB, Blk.ids, getBs, V.renL, V.ren, Blk.renL, Blk.ren, List.headD, List.length_nil, List.length_cons, h18, h19, F18_M, F19_one, hv, cnt, h1, h1', h2, h2']
      · have h2' : a ≤ 80 := by omega
        by_cases h3 : p < 0
        · have h3' : ¬ 0 ≤ p := by omega
          simp [b10, r10, evF, evBody, evC, evOps, evRI, ev1, wantR, putR, RX.ev, V.cellsOf, cellD, cellV, List.replicate, List.set, List.getD, fadrV, iadrV, loadV, storeV, fillV, splice, allD, toDs, V.toD, evRes, mkRes, mkTup, mkAgg, mkFn, V.callee, binD, unD, eqsV, planEq, leafEq, V.int?, V.list?, compact, addNew, V.idsL, V.ids, idsB, Blk.ids, getBs, V.renL, V.ren, Blk.renL, Blk.ren, List.headD, List.length_nil, List.length_cons, h18, h19, F18_M, F19_one, hv, cnt, h1, h1', h2, h2', h3, h3']
        · have h3' : 0 ≤ p := by omega
          by_cases h4 : 3 < p
          · have h4' : ¬ p ≤ 3 := by omega
            simp [b10, r10, evF, evBody, evC, evOps, evRI, ev1, wantR, putR, RX.ev, V.cellsOf, cellD, cellV, List.replicate, List.set, List.getD, fadrV, iadrV, loadV, storeV, fillV, splice, allD, toDs, V.toD, evRes, mkRes, mkTup, mkAgg, mkFn, V.callee, binD, unD, eqsV, planEq, leafEq, V.int?, V.list?, compact, addNew, V.idsL, V.ids, idsB, Blk.ids, getBs, V.renL, V.ren, Blk.renL, Blk.ren, List.headD, List.length_nil, List.length_cons, h18, h19, F18_M, F19_one, hv, cnt, h1, h1', h2, h2', h3, h3', h4, h4']
          · have h4' : p ≤ 3 := by omega
            cases z
            · cases hw : okM x (wr (y + tk a p)) <;> simp only [wr, tk] at hw <;>
              simp [b10, r10, b20, r20, evF, evBody, evC, evOps, evRI, ev1, wantR, putR, RX.ev, V.cellsOf, cellD, cellV, List.replicate, List.set, List.getD, fadrV, iadrV, loadV, storeV, fillV, splice, allD, toDs, V.toD, evRes, mkRes, mkTup, mkAgg, mkFn, V.callee, binD, unD, eqsV, planEq, leafEq, V.int?, V.list?, compact, addNew, V.idsL, V.ids, idsB, Blk.ids, getBs, V.renL, V.ren, Blk.renL, Blk.ren, List.headD, List.length_nil, List.length_cons, h18, h19, F18_M, F19_one, hv, cnt, reg, tk, h1, h1', h2, h2', h3, h3', h4, h4', hw]
            · cases hw : okM x (wr (y - tk a p)) <;> simp only [wr, tk] at hw <;>
              simp [b10, r10, b21, r21, evF, evBody, evC, evOps, evRI, ev1, wantR, putR, RX.ev, V.cellsOf, cellD, cellV, List.replicate, List.set, List.getD, fadrV, iadrV, loadV, storeV, fillV, splice, allD, toDs, V.toD, evRes, mkRes, mkTup, mkAgg, mkFn, V.callee, binD, unD, eqsV, planEq, leafEq, V.int?, V.list?, compact, addNew, V.idsL, V.ids, idsB, Blk.ids, getBs, V.renL, V.ren, Blk.renL, Blk.ren, List.headD, List.length_nil, List.length_cons, h18, h19, F18_M, F19_one, hv, cnt, reg, tk, h1, h1', h2, h2', h3, h3', h4, h4', hw]

theorem e11 (sp : SpecT) (h22 : sp 22 = some F18) (h23 : sp 23 = some F23) (n : Nat) (x y : Int) (z : Bool) (a p : Int) :
    ∃ h, evF body sp (n + 1) 11 [.d (M x y z), .d (.int .i64 a), .d (.int .i64 p)] [] = some (.ret (.d (cnt x y z a p)), h) := by
  cases hv : okM x y
  · simp [b11, r11, evF, evBody, evC, evOps, evRI, ev1, wantR, putR, RX.ev, V.cellsOf, cellD, cellV, List.replicate, List.set, List.getD, fadrV, iadrV, loadV, storeV, fillV, splice, allD, toDs, V.toD, evRes, mkRes, mkTup, mkAgg, mkFn, V.callee, binD, unD, eqsV, planEq, leafEq, V.int?, V.list?, compact, addNew, V.idsL, V.ids, idsB, Blk.ids, getBs, V.renL, V.ren, Blk.renL, Blk.ren, List.headD, List.length_nil, List.length_cons, h22, h23, F18_M, F23_M, hv, cnt]
  · by_cases h1 : a < 0
    · have h1' : ¬ 0 ≤ a := by omega
      simp [b11, r11, evF, evBody, evC, evOps, evRI, ev1, wantR, putR, RX.ev, V.cellsOf, cellD, cellV, List.replicate, List.set, List.getD, fadrV, iadrV, loadV, storeV, fillV, splice, allD, toDs, V.toD, evRes, mkRes, mkTup, mkAgg, mkFn, V.callee, binD, unD, eqsV, planEq, leafEq, V.int?, V.list?, compact, addNew, V.idsL, V.ids, idsB, Blk.ids, getBs, V.renL, V.ren, Blk.renL, Blk.ren, List.headD, List.length_nil, List.length_cons, h22, h23, F18_M, F23_M, hv, cnt, h1, h1']
    · have h1' : 0 ≤ a := by omega
      by_cases h2 : 80 < a
      · have h2' : ¬ a ≤ 80 := by omega
        simp [b11, r11, evF, evBody, evC, evOps, evRI, ev1, wantR, putR, RX.ev, V.cellsOf, cellD, cellV, List.replicate, List.set, List.getD, fadrV, iadrV, loadV, storeV, fillV, splice, allD, toDs, V.toD, evRes, mkRes, mkTup, mkAgg, mkFn, V.callee, binD, unD, eqsV, planEq, leafEq, V.int?, V.list?, compact, addNew, V.idsL, V.ids, idsB, Blk.ids, getBs, V.renL, V.ren, Blk.renL, Blk.ren, List.headD, List.length_nil, List.length_cons, h22, h23, F18_M, F23_M, hv, cnt, h1, h1', h2, h2']
      · have h2' : a ≤ 80 := by omega
        by_cases h3 : p < 0
        · have h3' : ¬ 0 ≤ p := by omega
          simp [b11, r11, evF, evBody, evC, evOps, evRI, ev1, wantR, putR, RX.ev, V.cellsOf, cellD, cellV, List.replicate, List.set, List.getD, fadrV, iadrV, loadV, storeV, fillV, splice, allD, toDs, V.toD, evRes, mkRes, mkTup, mkAgg, mkFn, V.callee, binD, unD, eqsV, planEq, leafEq, V.int?, V.list?, compact, addNew, V.idsL, V.ids, idsB, Blk.ids, getBs, V.renL, V.ren, Blk.renL, Blk.ren, List.headD, List.length_nil, List.length_cons, h22, h23, F18_M, F23_M, hv, cnt, h1, h1', h2, h2', h3, h3']
        · have h3' : 0 ≤ p := by omega
          by_cases h4 : 3 < p
          · have h4' : ¬ p ≤ 3 := by omega
            simp [b11, r11, evF, evBody, evC, evOps, evRI, ev1, wantR, putR, RX.ev, V.cellsOf, cellD, cellV, List.replicate, List.set, List.getD, fadrV, iadrV, loadV, storeV, fillV, splice, allD, toDs, V.toD, evRes, mkRes, mkTup, mkAgg, mkFn, V.callee, binD, unD, eqsV, planEq, leafEq, V.int?, V.list?, compact, addNew, V.idsL, V.ids, idsB, Blk.ids, getBs, V.renL, V.ren, Blk.renL, Blk.ren, List.headD, List.length_nil, List.length_cons, h22, h23, F18_M, F23_M, hv, cnt, h1, h1', h2, h2', h3, h3', h4, h4']
          · have h4' : p ≤ 3 := by omega
            cases z
            · cases hw : okM x (wr (y + tk a p)) <;> simp only [wr] at hw <;>
              simp [b11, r11, evF, evBody, evC, evOps, evRI, ev1, wantR, putR, RX.ev, V.cellsOf, cellD, cellV, List.replicate, List.set, List.getD, fadrV, iadrV, loadV, storeV, fillV, splice, allD, toDs, V.toD, evRes, mkRes, mkTup, mkAgg, mkFn, V.callee, binD, unD, eqsV, planEq, leafEq, V.int?, V.list?, compact, addNew, V.idsL, V.ids, idsB, Blk.ids, getBs, V.renL, V.ren, Blk.renL, Blk.ren, List.headD, List.length_nil, List.length_cons, h22, h23, F18_M, F23_M, hv, cnt, reg, h1, h1', h2, h2', h3, h3', h4, h4', hw]
            · cases hw : okM x (wr (y - tk a p)) <;> simp only [wr] at hw <;>
              simp [b11, r11, evF, evBody, evC, evOps, evRI, ev1, wantR, putR, RX.ev, V.cellsOf, cellD, cellV, List.replicate, List.set, List.getD, fadrV, iadrV, loadV, storeV, fillV, splice, allD, toDs, V.toD, evRes, mkRes, mkTup, mkAgg, mkFn, V.callee, binD, unD, eqsV, planEq, leafEq, V.int?, V.list?, compact, addNew, V.idsL, V.ids, idsB, Blk.ids, getBs, V.renL, V.ren, Blk.renL, Blk.ren, List.headD, List.length_nil, List.length_cons, h22, h23, F18_M, F23_M, hv, cnt, reg, h1, h1', h2, h2', h3, h3', h4, h4', hw]

theorem e12 (sp : SpecT) (h18 : sp 18 = some F18) (n : Nat) (x y : Int) (z : Bool) (s r : Int) :
    ∃ h, evF body sp (n + 1) 12 [.d (M x y z), .d (.int .i64 s), .d (.int .i64 r)] [] = some (.ret (.d (swp x y z s r)), h) := by
  cases hv : okM x y
  · simp [b12, r12, evF, evBody, evC, evOps, evRI, ev1, wantR, putR, RX.ev, V.cellsOf, cellD, cellV, List.replicate, List.set, List.getD, fadrV, iadrV, loadV, storeV, fillV, splice, allD, toDs, V.toD, evRes, mkRes, mkTup, mkAgg, mkFn, V.callee, binD, unD, eqsV, planEq, leafEq, V.int?, V.list?, compact, addNew, V.idsL, V.ids, idsB, Blk.ids, getBs, V.renL, V.ren, Blk.renL, Blk.ren, List.headD, List.length_nil, List.length_cons, h18, F18_M, hv, swp]
  · cases hw : okM s r
    · simp [b12, r12, evF, evBody, evC, evOps, evRI, ev1, wantR, putR, RX.ev, V.cellsOf, cellD, cellV, List.replicate, List.set, List.getD, fadrV, iadrV, loadV, storeV, fillV, splice, allD, toDs, V.toD, evRes, mkRes, mkTup, mkAgg, mkFn, V.callee, binD, unD, eqsV, planEq, leafEq, V.int?, V.list?, compact, addNew, V.idsL, V.ids, idsB, Blk.ids, getBs, V.renL, V.ren, Blk.renL, Blk.ren, List.headD, List.length_nil, List.length_cons, h18, F18_M, hv, hw, swp]
    · by_cases h1 : x = s
      · subst h1
        simp [b12, r12, evF, evBody, evC, evOps, evRI, ev1, wantR, putR, RX.ev, V.cellsOf, cellD, cellV, List.replicate, List.set, List.getD, fadrV, iadrV, loadV, storeV, fillV, splice, allD, toDs, V.toD, evRes, mkRes, mkTup, mkAgg, mkFn, V.callee, binD, unD, eqsV, planEq, leafEq, V.int?, V.list?, compact, addNew, V.idsL, V.ids, idsB, Blk.ids, getBs, V.renL, V.ren, Blk.renL, Blk.ren, List.headD, List.length_nil, List.length_cons, h18, F18_M, hv, hw, swp]
      · have hb : (x == s) = false := by simpa using h1
        simp [b12, r12, evF, evBody, evC, evOps, evRI, ev1, wantR, putR, RX.ev, V.cellsOf, cellD, cellV, List.replicate, List.set, List.getD, fadrV, iadrV, loadV, storeV, fillV, splice, allD, toDs, V.toD, evRes, mkRes, mkTup, mkAgg, mkFn, V.callee, binD, unD, eqsV, planEq, leafEq, V.int?, V.list?, compact, addNew, V.idsL, V.ids, idsB, Blk.ids, getBs, V.renL, V.ren, Blk.renL, Blk.ren, List.headD, List.length_nil, List.length_cons, h18, F18_M, hv, hw, swp, h1, hb]

theorem e13 (sp : SpecT) (h22 : sp 22 = some F18) (n : Nat) (x y : Int) (z : Bool) (s r : Int) :
    ∃ h, evF body sp (n + 1) 13 [.d (M x y z), .d (.int .i64 s), .d (.int .i64 r)] [] = some (.ret (.d (swp x y z s r)), h) := by
  cases hv : okM x y
  · simp [b13, r13, evF, evBody, evC, evOps, evRI, ev1, wantR, putR, RX.ev, V.cellsOf, cellD, cellV, List.replicate, List.set, List.getD, fadrV, iadrV, loadV, storeV, fillV, splice, allD, toDs, V.toD, evRes, mkRes, mkTup, mkAgg, mkFn, V.callee, binD, unD, eqsV, planEq, leafEq, V.int?, V.list?, compact, addNew, V.idsL, V.ids, idsB, Blk.ids, getBs, V.renL, V.ren, Blk.renL, Blk.ren, List.headD, List.length_nil, List.length_cons, h22, F18_M, hv, swp]
  · cases hw : okM s r
    · simp [b13, r13, evF, evBody, evC, evOps, evRI, ev1, wantR, putR, RX.ev, V.cellsOf, cellD, cellV, List.replicate, List.set, List.getD, fadrV, iadrV, loadV, storeV, fillV, splice, allD, toDs, V.toD, evRes, mkRes, mkTup, mkAgg, mkFn, V.callee, binD, unD, eqsV, planEq, leafEq, V.int?, V.list?, compact, addNew, V.idsL, V.ids, idsB, Blk.ids, getBs, V.renL, V.ren, Blk.renL, Blk.ren, List.headD, List.length_nil, List.length_cons, h22, F18_M, hv, hw, swp]
    · by_cases h1 : x = s
      · subst h1
        simp [b13, r13, evF, evBody, evC, evOps, evRI, ev1, wantR, putR, RX.ev, V.cellsOf, cellD, cellV, List.replicate, List.set, List.getD, fadrV, iadrV, loadV, storeV, fillV, splice, allD, toDs, V.toD, evRes, mkRes, mkTup, mkAgg, mkFn, V.callee, binD, unD, eqsV, planEq, leafEq, V.int?, V.list?, compact, addNew, V.idsL, V.ids, idsB, Blk.ids, getBs, V.renL, V.ren, Blk.renL, Blk.ren, List.headD, List.length_nil, List.length_cons, h22, F18_M, hv, hw, swp]
      · have h1' : ¬ s = x := fun q => h1 q.symm
        have hb : (x == s) = false := by simpa using h1
        have hb' : (s == x) = false := by simpa using h1'
        simp [b13, r13, evF, evBody, evC, evOps, evRI, ev1, wantR, putR, RX.ev, V.cellsOf, cellD, cellV, List.replicate, List.set, List.getD, fadrV, iadrV, loadV, storeV, fillV, splice, allD, toDs, V.toD, evRes, mkRes, mkTup, mkAgg, mkFn, V.callee, binD, unD, eqsV, planEq, leafEq, V.int?, V.list?, compact, addNew, V.idsL, V.ids, idsB, Blk.ids, getBs, V.renL, V.ren, Blk.renL, Blk.ren, List.headD, List.length_nil, List.length_cons, h22, F18_M, hv, hw, swp, h1, h1', hb, hb']

theorem e14 (sp : SpecT) (h18 : sp 18 = some F18) (n : Nat) (x y : Int) (z : Bool) (x' y' : Int) (z' : Bool) :
    ∃ h, evF body sp (n + 1) 14 [.d (M x y z), .d (M x' y' z')] [] = some (.ret (.d (nrg x y x' y')), h) := by
  cases hv : okM x y
  · simp [b14, r14, evF, evBody, evC, evOps, evRI, ev1, wantR, putR, RX.ev, V.cellsOf, cellD, cellV, List.replicate, List.set, List.getD, fadrV, iadrV, loadV, storeV, fillV, splice, allD, toDs, V.toD, evRes, mkRes, mkTup, mkAgg, mkFn, V.callee, binD, unD, eqsV, planEq, leafEq, V.int?, V.list?, compact, addNew, V.idsL, V.ids, idsB, Blk.ids, getBs, V.renL, V.ren, Blk.renL, Blk.ren, List.headD, List.length_nil, List.length_cons, h18, F18_M, hv, nrg]
  · cases hw : okM x' y'
    · simp [b14, r14, evF, evBody, evC, evOps, evRI, ev1, wantR, putR, RX.ev, V.cellsOf, cellD, cellV, List.replicate, List.set, List.getD, fadrV, iadrV, loadV, storeV, fillV, splice, allD, toDs, V.toD, evRes, mkRes, mkTup, mkAgg, mkFn, V.callee, binD, unD, eqsV, planEq, leafEq, V.int?, V.list?, compact, addNew, V.idsL, V.ids, idsB, Blk.ids, getBs, V.renL, V.ren, Blk.renL, Blk.ren, List.headD, List.length_nil, List.length_cons, h18, F18_M, hv, hw, nrg]
    · by_cases h1 : x = x'
      · subst h1
        by_cases h2 : y' < y
        · simp [b14, r14, evF, evBody, evC, evOps, evRI, ev1, wantR, putR, RX.ev, V.cellsOf, cellD, cellV, List.replicate, List.set, List.getD, fadrV, iadrV, loadV, storeV, fillV, splice, allD, toDs, V.toD, evRes, mkRes, mkTup, mkAgg, mkFn, V.callee, binD, unD, eqsV, planEq, leafEq, V.int?, V.list?, compact, addNew, V.idsL, V.ids, idsB, Blk.ids, getBs, V.renL, V.ren, Blk.renL, Blk.ren, List.headD, List.length_nil, List.length_cons, h18, F18_M, hv, hw, nrg, h2]
        · simp [b14, r14, evF, evBody, evC, evOps, evRI, ev1, wantR, putR, RX.ev, V.cellsOf, cellD, cellV, List.replicate, List.set, List.getD, fadrV, iadrV, loadV, storeV, fillV, splice, allD, toDs, V.toD, evRes, mkRes, mkTup, mkAgg, mkFn, V.callee, binD, unD, eqsV, planEq, leafEq, V.int?, V.list?, compact, addNew, V.idsL, V.ids, idsB, Blk.ids, getBs, V.renL, V.ren, Blk.renL, Blk.ren, List.headD, List.length_nil, List.length_cons, h18, F18_M, hv, hw, nrg, h2]
      · have hb : (x == x') = false := by simpa using h1
        have hb' : (x != x') = true := by simpa using h1
        simp [b14, r14, evF, evBody, evC, evOps, evRI, ev1, wantR, putR, RX.ev, V.cellsOf, cellD, cellV, List.replicate, List.set, List.getD, fadrV, iadrV, loadV, storeV, fillV, splice, allD, toDs, V.toD, evRes, mkRes, mkTup, mkAgg, mkFn, V.callee, binD, unD, eqsV, planEq, leafEq, V.int?, V.list?, compact, addNew, V.idsL, V.ids, idsB, Blk.ids, getBs, V.renL, V.ren, Blk.renL, Blk.ren, List.headD, List.length_nil, List.length_cons, h18, F18_M, hv, hw, nrg, h1, hb, hb']

theorem e15 (sp : SpecT) (h22 : sp 22 = some F18) (n : Nat) (x y : Int) (z : Bool) (x' y' : Int) (z' : Bool) :
    ∃ h, evF body sp (n + 1) 15 [.d (M x y z), .d (M x' y' z')] [] = some (.ret (.d (nrg x y x' y')), h) := by
  cases hv : okM x y
  · simp [b15, r15, evF, evBody, evC, evOps, evRI, ev1, wantR, putR, RX.ev, V.cellsOf, cellD, cellV, List.replicate, List.set, List.getD, fadrV, iadrV, loadV, storeV, fillV, splice, allD, toDs, V.toD, evRes, mkRes, mkTup, mkAgg, mkFn, V.callee, binD, unD, eqsV, planEq, leafEq, V.int?, V.list?, compact, addNew, V.idsL, V.ids, idsB, Blk.ids, getBs, V.renL, V.ren, Blk.renL, Blk.ren, List.headD, List.length_nil, List.length_cons, h22, F18_M, hv, nrg]
  · cases hw : okM x' y'
    · simp [b15, r15, evF, evBody, evC, evOps, evRI, ev1, wantR, putR, RX.ev, V.cellsOf, cellD, cellV, List.replicate, List.set, List.getD, fadrV, iadrV, loadV, storeV, fillV, splice, allD, toDs, V.toD, evRes, mkRes, mkTup, mkAgg, mkFn, V.callee, binD, unD, eqsV, planEq, leafEq, V.int?, V.list?, compact, addNew, V.idsL, V.ids, idsB, Blk.ids, getBs, V.renL, V.ren, Blk.renL, Blk.ren, List.headD, List.length_nil, List.length_cons, h22, F18_M, hv, hw, nrg]
    · by_cases h1 : x = x'
      · subst h1
        by_cases h2 : y' < y
        · simp [b15, r15, evF, evBody, evC, evOps, evRI, ev1, wantR, putR, RX.ev, V.cellsOf, cellD, cellV, List.replicate, List.set, List.getD, fadrV, iadrV, loadV, storeV, fillV, splice, allD, toDs, V.toD, evRes, mkRes, mkTup, mkAgg, mkFn, V.callee, binD, unD, eqsV, planEq, leafEq, V.int?, V.list?, compact, addNew, V.idsL, V.ids, idsB, Blk.ids, getBs, V.renL, V.ren, Blk.renL, Blk.ren, List.headD, List.length_nil, List.length_cons, h22, F18_M, hv, hw, nrg, h2]
        · simp [b15, r15, evF, evBody, evC, evOps, evRI, ev1, wantR, putR, RX.ev, V.cellsOf, cellD, cellV, List.replicate, List.set, List.getD, fadrV, iadrV, loadV, storeV, fillV, splice, allD, toDs, V.toD, evRes, mkRes, mkTup, mkAgg, mkFn, V.callee, binD, unD, eqsV, planEq, leafEq, V.int?, V.list?, compact, addNew, V.idsL, V.ids, idsB, Blk.ids, getBs, V.renL, V.ren, Blk.renL, Blk.ren, List.headD, List.length_nil, List.length_cons, h22, F18_M, hv, hw, nrg, h2]
      · have hb : (x == x') = false := by simpa using h1
        have hb' : (x != x') = true := by simpa using h1
        simp [b15, r15, evF, evBody, evC, evOps, evRI, ev1, wantR, putR, RX.ev, V.cellsOf, cellD, cellV, List.replicate, List.set, List.getD, fadrV, iadrV, loadV, storeV, fillV, splice, allD, toDs, V.toD, evRes, mkRes, mkTup, mkAgg, mkFn, V.callee, binD, unD, eqsV, planEq, leafEq, V.int?, V.list?, compact, addNew, V.idsL, V.ids, idsB, Blk.ids, getBs, V.renL, V.ren, Blk.renL, Blk.ren, List.headD, List.length_nil, List.length_cons, h22, F18_M, hv, hw, nrg, h1, hb, hb']
end Go.Proofs.Ytgkjmdbjncnlpaa
