/- What the functions answer, in plain words, and that they do. -/
import Derived.Test.YtgkjmdbjncnlpaaRf
namespace Go.Proofs.Ytgkjmdbjncnlpaa
open Go.Ev
set_option linter.unusedVariables false
set_option linter.unusedSimpArgs false
set_option maxRecDepth 100000

abbrev M (x y : Int) (z : Bool) : D := .agg [.int .i64 x, .int .i64 y, .bool z]
abbrev wr (n : Int) : Int := IntKind.i64.wrap n

theorem wr_in {n : Int} (h1 : -9223372036854775808 ≤ n) (h2 : n ≤ 9223372036854775807) : IntKind.i64.wrap n = n := IntWalk.i64_in n ⟨h1, h2⟩

/-- All numbers lie between two. -/
def inB (a b : Int) (l : List Int) : Bool := l.all fun n => !(decide (n < a) || decide (n > b))

/-- A meter is valid. -/
def okM (x y : Int) : Bool := decide (0 ≤ x) && decide (x ≤ 1000000) && decide (-1000000000000000 ≤ y) && decide (y ≤ 1000000000000000)

def ints (l : List Int) : List D := l.map (.int .i64 ·)

def unint : List D → Option (List Int)
  | [] => some []
  | .int .i64 n :: r => (unint r).map (n :: ·)
  | _ :: _ => none

theorem unint_eq : ∀ {l : List D} {k : List Int}, unint l = some k → l = ints k
  | [], k, h => by simp only [unint, Option.some.injEq] at h; subst h; rfl
  | x :: l, k, h => by
    unfold unint at h
    split at h
    · rename_i e; cases e
    · rename_i n r e
      injection e with e1 e2; subst e1; subst e2
      simp only [Option.map_eq_some_iff] at h
      obtain ⟨k', h1, rfl⟩ := h
      simp [ints, unint_eq h1]
    · cases h

def F19 : Ev.Fn
  | [.int .i64 a, .int .i64 b, .lst 1 n cells _] => match unint cells with
    | some l => if l.length = n ∧ n < 2 ^ 62 then some (.bool (inB a b l)) else none
    | none => none
  | _ => none

def F18 : Ev.Fn
  | [.agg [.int .i64 x, .int .i64 y, .bool z]] => some (.bool (okM x y))
  | _ => none

def tk (a p : Int) : Int := wr (wr (2300 * a) * p)

def F23 : Ev.Fn
  | [.int .i64 a, .int .i64 p] => some (.int .i64 (tk a p))
  | _ => none

theorem okM_iff {x y : Int} : okM x y = true ↔ 0 ≤ x ∧ x ≤ 1000000 ∧ -1000000000000000 ≤ y ∧ y ≤ 1000000000000000 := by
  simp [okM, and_assoc]

/-! ### between -/

/-- The state at the head of the loop. -/
abbrev S19 (lo up : Int) (l : List Int) (ex : Bool) (i : Nat) : List V :=
  [.d (.int .i64 lo), .d (.int .i64 up), .d .undef, .d .undef, .d .undef, .d .undef, .d .undef, .d .undef, .d .undef, .d (.lst 1 l.length (ints l) ex), .d (.int .i64 l.length), .d (.int .i64 i), .d .undef, .d .undef, .d .undef, .d .undef, .d .undef, .d .undef, .d .undef, .d .undef, .d .undef, .d .undef, .d .undef, .d .undef]

theorem loop19 (call : CallT) (sp : SpecT) (lo up : Int) (l : List Int) (ex : Bool) (hlt : l.length < 2 ^ 62) (k : Nat) :
    ∀ (m i f : Nat), m = l.length - i → i ≤ l.length → m < f →
    (inB lo up (l.drop i) = true → evLoop (evC call sp k c19_2) [0, 1, 9, 10, 11] f (S19 lo up l ex i) [] = some (.exit 0, S19 lo up l ex l.length, [])) ∧
    (inB lo up (l.drop i) = false → ∃ ts, evLoop (evC call sp k c19_2) [0, 1, 9, 10, 11] f (S19 lo up l ex i) [] = some (.ret, ts, []) ∧ ts[6]? = some (.d (.bool false))) := by
  intro m
  induction m with
  | zero =>
    intro i f hm hi hf
    have hin : i = l.length := by omega
    subst hin
    obtain ⟨f, rfl⟩ : ∃ g, f = g + 1 := ⟨f - 1, by omega⟩
    refine ⟨?_, fun h => by simp [inB] at h⟩
    intro _
    apply evLoop_exit
    · simp [c19_2, evF, evBody, evC, evOps, evRI, ev1, wantR, putR, RX.ev, V.cellsOf, cellD, cellV, List.replicate, List.set, List.getD, fadrV, iadrV, loadV, storeV, fillV, splice, allD, toDs, V.toD, evRes, mkRes, mkTup, mkAgg, mkFn, V.callee, binD, unD, eqsV, planEq, leafEq, V.int?, V.list?, compact, addNew, V.idsL, V.ids, idsB, Blk.ids, getBs, V.renL, V.ren, Blk.renL, Blk.ren, List.headD, List.length_nil, List.length_cons]
      exact ⟨rfl, rfl⟩
    · rfl
  | succ m ih =>
    intro i f hm hi hf
    obtain ⟨f, rfl⟩ : ∃ g, f = g + 1 := ⟨f - 1, by omega⟩
    have hilt : i < l.length := by omega
    have hb0 : inB lo up (l.drop i) = (!(decide (l[i] < lo) || decide (l[i] > up)) && inB lo up (l.drop (i + 1))) := by rw [List.drop_eq_getElem_cons hilt]; rfl
    generalize hx : l[i] = x at *
    have hd2 : (ints l).drop i = .int .i64 x :: (ints l).drop (i + 1) := by
      have : i < (ints l).length := by simpa [ints] using hilt
      rw [List.drop_eq_getElem_cons this]; simp [ints, hx]
    have hw : IntKind.i64.wrap ((i : Int) + 1) = (i : Int) + 1 := wr_in (by omega) (by omega)
    obtain ⟨ih1, ih2⟩ := ih (i + 1) f (by omega) (by omega) (by omega)
    have hi2 : (i : Int) < l.length := by omega
    by_cases h1 : x < lo
    · refine ⟨fun h => by rw [hb0] at h; simp [h1] at h, ?_⟩
      intro _
      apply Exists.intro
      constructor
      apply evLoop_ret
      · simp [c19_2, evF, evBody, evC, evOps, evRI, ev1, wantR, putR, RX.ev, V.cellsOf, cellD, cellV, List.replicate, List.set, List.getD, fadrV, iadrV, loadV, storeV, fillV, splice, allD, toDs, V.toD, evRes, mkRes, mkTup, mkAgg, mkFn, V.callee, binD, unD, eqsV, planEq, leafEq, V.int?, V.list?, compact, addNew, V.idsL, V.ids, idsB, Blk.ids, getBs, V.renL, V.ren, Blk.renL, Blk.ren, List.headD, List.length_nil, List.length_cons, hi2, hd2, h1]
        rfl
      · rfl
    · by_cases h2 : up < x
      · refine ⟨fun h => by rw [hb0] at h; simp [h2] at h, ?_⟩
        intro _
        apply Exists.intro
        constructor
        apply evLoop_ret
        · simp [c19_2, evF, evBody, evC, evOps, evRI, ev1, wantR, putR, RX.ev, V.cellsOf, cellD, cellV, List.replicate, List.set, List.getD, fadrV, iadrV, loadV, storeV, fillV, splice, allD, toDs, V.toD, evRes, mkRes, mkTup, mkAgg, mkFn, V.callee, binD, unD, eqsV, planEq, leafEq, V.int?, V.list?, compact, addNew, V.idsL, V.ids, idsB, Blk.ids, getBs, V.renL, V.ren, Blk.renL, Blk.ren, List.headD, List.length_nil, List.length_cons, hi2, hd2, h1, h2]
          rfl
        · rfl
      · have hb : inB lo up (l.drop i) = inB lo up (l.drop (i + 1)) := by rw [hb0]; simp [h1, h2]
        rw [hb]
        have step : evLoop (evC call sp k c19_2) [0, 1, 9, 10, 11] (f + 1) (S19 lo up l ex i) [] = evLoop (evC call sp k c19_2) [0, 1, 9, 10, 11] f (S19 lo up l ex (i + 1)) [] := by
          apply evLoop_nor
          · simp [c19_2, evF, evBody, evC, evOps, evRI, ev1, wantR, putR, RX.ev, V.cellsOf, cellD, cellV, List.replicate, List.set, List.getD, fadrV, iadrV, loadV, storeV, fillV, splice, allD, toDs, V.toD, evRes, mkRes, mkTup, mkAgg, mkFn, V.callee, binD, unD, eqsV, planEq, leafEq, V.int?, V.list?, compact, addNew, V.idsL, V.ids, idsB, Blk.ids, getBs, V.renL, V.ren, Blk.renL, Blk.ren, List.headD, List.length_nil, List.length_cons, hi2, hd2, h1, h2, hw]
            exact ⟨rfl, rfl⟩
          · rfl
        rw [step]
        exact ⟨ih1, ih2⟩

theorem e19 (sp : SpecT) (lo up : Int) (l : List Int) (ex : Bool) (hlt : l.length < 2 ^ 62) (n : Nat) (hn : l.length < n) :
    ∃ h', evF body sp (n + 1) 19 [.d (.int .i64 lo), .d (.int .i64 up), .d (.lst 1 l.length (ints l) ex)] [] = some (.ret (.d (.bool (inB lo up l))), h') := by
  obtain ⟨h1, h2⟩ := loop19 (evF body sp n) sp lo up l ex hlt n l.length 0 n (by omega) (by omega) hn
  cases hb : inB lo up l with
  | true =>
    have := h1 (by simpa using hb)
    simp [S19] at this
    simp [b19, r19, evF, evBody, evC, evOps, evRI, ev1, wantR, putR, RX.ev, V.cellsOf, cellD, cellV, List.replicate, List.set, List.getD, fadrV, iadrV, loadV, storeV, fillV, splice, allD, toDs, V.toD, evRes, mkRes, mkTup, mkAgg, mkFn, V.callee, binD, unD, eqsV, planEq, leafEq, V.int?, V.list?, compact, addNew, V.idsL, V.ids, idsB, Blk.ids, getBs, V.renL, V.ren, Blk.renL, Blk.ren, List.headD, List.length_nil, List.length_cons, forget, this]
  | false =>
    obtain ⟨ts, h3, h4⟩ := h2 (by simpa using hb)
    simp [S19] at h3
    simp [b19, r19, evF, evBody, evC, evOps, evRI, ev1, wantR, putR, RX.ev, V.cellsOf, cellD, cellV, List.replicate, List.set, List.getD, fadrV, iadrV, loadV, storeV, fillV, splice, allD, toDs, V.toD, evRes, mkRes, mkTup, mkAgg, mkFn, V.callee, binD, unD, eqsV, planEq, leafEq, V.int?, V.list?, compact, addNew, V.idsL, V.ids, idsB, Blk.ids, getBs, V.renL, V.ren, Blk.renL, Blk.ren, List.headD, List.length_nil, List.length_cons, forget, h3, h4]

theorem p19 : Pure Try.prog G0 19 F19 := by
  refine pure_run (sp := mkSp isS []) bodyOK (mkSp_ok callS all_nil) (mkSp_S _) mix (callS 19 (by decide)) ?_
  intro ds d h
  unfold F19 at h
  split at h
  · rename_i a b n cells ex
    split at h
    · rename_i l hl
      split at h
      · rename_i hc
        obtain ⟨rfl, hc⟩ := hc
        injection h with h; subst h
        have := unint_eq hl
        subst this
        obtain ⟨h', he⟩ := e19 (mkSp isS []) a b l ex hc (l.length + 1) (by omega)
        exact ⟨_, _, _, he, rfl⟩
      · cases h
    · cases h
  · cases h

/-! ### The small ones -/

theorem ints_one (n : Int) : [D.int .i64 n] = ints [n] := rfl

theorem F19_one (a b n : Int) (ex : Bool) : F19 [.int .i64 a, .int .i64 b, .lst 1 1 [.int .i64 n] ex] = some (.bool (!(decide (n < a) || decide (n > b)))) := by
  simp [F19, unint, inB]

def L18 : List (FuncId × Ev.Fn) := [(19, F19)]

theorem e22 (sp : SpecT) (n : Nat) (x y : Int) (z : Bool) : evF body sp (n + 1) 22 [.d (M x y z)] [] = some (.ret (.d (.bool (okM x y))), []) := by
  by_cases h1 : 0 ≤ x
  · by_cases h2 : x ≤ 1000000
    · by_cases h3 : -1000000000000000 ≤ y
      · by_cases h4 : y ≤ 1000000000000000
        · simp [b22, r22, evF, evBody, evC, evOps, evRI, ev1, wantR, putR, RX.ev, V.cellsOf, cellD, cellV, List.replicate, List.set, List.getD, fadrV, iadrV, loadV, storeV, fillV, splice, allD, toDs, V.toD, evRes, mkRes, mkTup, mkAgg, mkFn, V.callee, binD, unD, eqsV, planEq, leafEq, V.int?, V.list?, compact, addNew, V.idsL, V.ids, idsB, Blk.ids, getBs, V.renL, V.ren, Blk.renL, Blk.ren, List.headD, List.length_nil, List.length_cons, okM, h1, h2, h3, h4]
        · simp [b22, r22, evF, evBody, evC, evOps, evRI, ev1, wantR, putR, RX.ev, V.cellsOf, cellD, cellV, List.replicate, List.set, List.getD, fadrV, iadrV, loadV, storeV, fillV, splice, allD, toDs, V.toD, evRes, mkRes, mkTup, mkAgg, mkFn, V.callee, binD, unD, eqsV, planEq, leafEq, V.int?, V.list?, compact, addNew, V.idsL, V.ids, idsB, Blk.ids, getBs, V.renL, V.ren, Blk.renL, Blk.ren, List.headD, List.length_nil, List.length_cons, okM, h1, h2, h3, h4]
      · simp [b22, r22, evF, evBody, evC, evOps, evRI, ev1, wantR, putR, RX.ev, V.cellsOf, cellD, cellV, List.replicate, List.set, List.getD, fadrV, iadrV, loadV, storeV, fillV, splice, allD, toDs, V.toD, evRes, mkRes, mkTup, mkAgg, mkFn, V.callee, binD, unD, eqsV, planEq, leafEq, V.int?, V.list?, compact, addNew, V.idsL, V.ids, idsB, Blk.ids, getBs, V.renL, V.ren, Blk.renL, Blk.ren, List.headD, List.length_nil, List.length_cons, okM, h1, h2, h3]
    · simp [b22, r22, evF, evBody, evC, evOps, evRI, ev1, wantR, putR, RX.ev, V.cellsOf, cellD, cellV, List.replicate, List.set, List.getD, fadrV, iadrV, loadV, storeV, fillV, splice, allD, toDs, V.toD, evRes, mkRes, mkTup, mkAgg, mkFn, V.callee, binD, unD, eqsV, planEq, leafEq, V.int?, V.list?, compact, addNew, V.idsL, V.ids, idsB, Blk.ids, getBs, V.renL, V.ren, Blk.renL, Blk.ren, List.headD, List.length_nil, List.length_cons, okM, h1, h2]
  · simp [b22, r22, evF, evBody, evC, evOps, evRI, ev1, wantR, putR, RX.ev, V.cellsOf, cellD, cellV, List.replicate, List.set, List.getD, fadrV, iadrV, loadV, storeV, fillV, splice, allD, toDs, V.toD, evRes, mkRes, mkTup, mkAgg, mkFn, V.callee, binD, unD, eqsV, planEq, leafEq, V.int?, V.list?, compact, addNew, V.idsL, V.ids, idsB, Blk.ids, getBs, V.renL, V.ren, Blk.renL, Blk.ren, List.headD, List.length_nil, List.length_cons, okM, h1]

theorem e18 (sp : SpecT) (h19 : sp 19 = some F19) (n : Nat) (x y : Int) (z : Bool) : evF body sp (n + 1) 18 [.d (M x y z)] [] = some (.ret (.d (.bool (okM x y))), []) := by
  by_cases h1 : x < 0
  · have h1' : ¬ 0 ≤ x := by omega
    simp [b18, r18, evF, evBody, evC, evOps, evRI, ev1, wantR, putR, RX.ev, V.cellsOf, cellD, cellV, List.replicate, List.set, List.getD, fadrV, iadrV, loadV, storeV, fillV, splice, allD, toDs, V.toD, evRes, mkRes, mkTup, mkAgg, mkFn, V.callee, binD, unD, eqsV, planEq, leafEq, V.int?, V.list?, compact, addNew, V.idsL, V.ids, idsB, Blk.ids, getBs, V.renL, V.ren, Blk.renL, Blk.ren, List.headD, List.length_nil, List.length_cons, okM, h19, F19_one, h1, h1']
  · have h1' : 0 ≤ x := by omega
    by_cases h2 : 1000000 < x
    · have h2' : ¬ x ≤ 1000000 := by omega
      simp [b18, r18, evF, evBody, evC, evOps, evRI, ev1, wantR, putR, RX.ev, V.cellsOf, cellD, cellV, List.replicate, List.set, List.getD, fadrV, iadrV, loadV, storeV, fillV, splice, allD, toDs, V.toD, evRes, mkRes, mkTup, mkAgg, mkFn, V.callee, binD, unD, eqsV, planEq, leafEq, V.int?, V.list?, compact, addNew, V.idsL, V.ids, idsB, Blk.ids, getBs, V.renL, V.ren, Blk.renL, Blk.ren, List.headD, List.length_nil, List.length_cons, okM, h19, F19_one, h1, h1', h2, h2']
    · have h2' : x ≤ 1000000 := by omega
      by_cases h3 : y < -1000000000000000
      · have h3' : ¬ -1000000000000000 ≤ y := by omega
        simp [b18, r18, evF, evBody, evC, evOps, evRI, ev1, wantR, putR, RX.ev, V.cellsOf, cellD, cellV, List.replicate, List.set, List.getD, fadrV, iadrV, loadV, storeV, fillV, splice, allD, toDs, V.toD, evRes, mkRes, mkTup, mkAgg, mkFn, V.callee, binD, unD, eqsV, planEq, leafEq, V.int?, V.list?, compact, addNew, V.idsL, V.ids, idsB, Blk.ids, getBs, V.renL, V.ren, Blk.renL, Blk.ren, List.headD, List.length_nil, List.length_cons, okM, h19, F19_one, h1, h1', h2, h2', h3, h3']
      · have h3' : -1000000000000000 ≤ y := by omega
        by_cases h4 : 1000000000000000 < y
        · have h4' : ¬ y ≤ 1000000000000000 := by omega
          simp [b18, r18, evF, evBody, evC, evOps, evRI, ev1, wantR, putR, RX.ev, V.cellsOf, cellD, cellV, List.replicate, List.set, List.getD, fadrV, iadrV, loadV, storeV, fillV, splice, allD, toDs, V.toD, evRes, mkRes, mkTup, mkAgg, mkFn, V.callee, binD, unD, eqsV, planEq, leafEq, V.int?, V.list?, compact, addNew, V.idsL, V.ids, idsB, Blk.ids, getBs, V.renL, V.ren, Blk.renL, Blk.ren, List.headD, List.length_nil, List.length_cons, okM, h19, F19_one, h1, h1', h2, h2', h3, h3', h4, h4']
        · have h4' : y ≤ 1000000000000000 := by omega
          simp [b18, r18, evF, evBody, evC, evOps, evRI, ev1, wantR, putR, RX.ev, V.cellsOf, cellD, cellV, List.replicate, List.set, List.getD, fadrV, iadrV, loadV, storeV, fillV, splice, allD, toDs, V.toD, evRes, mkRes, mkTup, mkAgg, mkFn, V.callee, binD, unD, eqsV, planEq, leafEq, V.int?, V.list?, compact, addNew, V.idsL, V.ids, idsB, Blk.ids, getBs, V.renL, V.ren, Blk.renL, Blk.ren, List.headD, List.length_nil, List.length_cons, okM, h19, F19_one, h1, h1', h2, h2', h3, h3', h4, h4']

theorem e23 (sp : SpecT) (n : Nat) (a p : Int) : evF body sp (n + 1) 23 [.d (.int .i64 a), .d (.int .i64 p)] [] = some (.ret (.d (.int .i64 (tk a p))), []) := by
  simp [b23, r23, evF, evBody, evC, evOps, evRI, ev1, wantR, putR, RX.ev, V.cellsOf, cellD, cellV, List.replicate, List.set, List.getD, fadrV, iadrV, loadV, storeV, fillV, splice, allD, toDs, V.toD, evRes, mkRes, mkTup, mkAgg, mkFn, V.callee, binD, unD, eqsV, planEq, leafEq, V.int?, V.list?, compact, addNew, V.idsL, V.ids, idsB, Blk.ids, getBs, V.renL, V.ren, Blk.renL, Blk.ren, List.headD, List.length_nil, List.length_cons, tk]

theorem e20 (sp : SpecT) (n : Nat) (x y : Int) (z : Bool) (e : Int) (h : List Blk) : evF body sp (n + 1) 20 [.d (M x y z), .d (.int .i64 e)] [] = some (.ret (.d (M x (wr (y + e)) z)), []) := by
  simp [b20, r20, evF, evBody, evC, evOps, evRI, ev1, wantR, putR, RX.ev, V.cellsOf, cellD, cellV, List.replicate, List.set, List.getD, fadrV, iadrV, loadV, storeV, fillV, splice, allD, toDs, V.toD, evRes, mkRes, mkTup, mkAgg, mkFn, V.callee, binD, unD, eqsV, planEq, leafEq, V.int?, V.list?, compact, addNew, V.idsL, V.ids, idsB, Blk.ids, getBs, V.renL, V.ren, Blk.renL, Blk.ren, List.headD, List.length_nil, List.length_cons]

theorem p22 : Pure Try.prog G0 22 F18 := by
  refine pure_run (sp := mkSp isS []) bodyOK (mkSp_ok callS all_nil) (mkSp_S _) mix (callS 22 (by decide)) ?_
  intro ds d h
  unfold F18 at h
  split at h
  · rename_i x y z
    injection h with h; subst h
    exact ⟨_, _, _, e22 _ 0 x y z, rfl⟩
  · cases h

theorem p23 : Pure Try.prog G0 23 F23 := by
  refine pure_run (sp := mkSp isS []) bodyOK (mkSp_ok callS all_nil) (mkSp_S _) mix (callS 23 (by decide)) ?_
  intro ds d h
  unfold F23 at h
  split at h
  · rename_i a p
    injection h with h; subst h
    exact ⟨_, _, _, e23 _ 0 a p, rfl⟩
  · cases h

theorem p18 : Pure Try.prog G0 18 F18 := by
  refine pure_run (sp := mkSp isS [(19, F19)]) bodyOK (mkSp_ok callS (all_cons p19 all_nil)) (mkSp_S _) mix (callS 18 (by decide)) ?_
  intro ds d h
  unfold F18 at h
  split at h
  · rename_i x y z
    injection h with h; subst h
    exact ⟨_, _, _, e18 _ rfl 0 x y z, rfl⟩
  · cases h
end Go.Proofs.Ytgkjmdbjncnlpaa
