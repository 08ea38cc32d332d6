/- MeterMatchesReference: all functions of the meter return what the reference implementation returns, for every meter and all numbers, without conditions. -/
import Derived.Test.YtgkjmdbjncnlpaaHs
import Derived.Test.YtgkjmdbjncnlpaaEvY
import Derived.ChangeCalls
namespace Go.Proofs.Ytgkjmdbjncnlpaa
open Go.Ev Go.ChangeShapes Go.WideShapes Go.ChangeAt Go.RowKit
set_option linter.unusedVariables false
set_option linter.unusedSimpArgs false
set_option maxRecDepth 100000

abbrev rv (d : D) : Option (Out × List Blk) := some (.ret (.d d), [])

theorem eqs_same (call : CallT) (sp : SpecT) (a b : Int) (c : Bool) :
    evRI call sp (.op (.eqs false [(0, .i), (1, .i), (2, .b)] (.c (M a b c)) (.c (M a b c)))) [] [] = rv (.bool true) := by
  simp [evRI, ev1, RX.ev, eqsV, planEq, leafEq, rv]

theorem eql_same (call : CallT) (sp : SpecT) (a : Int) : evRI call sp (.op (.bin .eql (.c (.int .i64 a)) (.c (.int .i64 a)))) [] [] = rv (.bool true) := by
  simp [evRI, ev1, RX.ev, binD, rv]

def L3 : List (FuncId × Ev.Fn) := [(9, F9), (10, F10), (11, F10), (12, F12), (13, F12), (14, F14), (15, F14)]

theorem e3 (x y : Int) (z : Bool) (x' y' : Int) (z' : Bool) (a p : Int) :
    evF body (mkSp isS L3) 1 3 [.d (M x y z), .d (M x' y' z'), .d (.int .i64 a), .d (.int .i64 p)] [] = some (.ret (.d (.bool true)), []) := by
  obtain ⟨x1, y1, z1, e1, q1⟩ := cnt_shape x y z a p
  obtain ⟨x2, y2, z2, e2, q2⟩ := swp_shape x y z a p
  obtain ⟨n3, e3, q3⟩ := nrg_shape x y x' y'
  refine xF_ok b3 [(8, .d (.tup [M x1 y1 z1, .int .i64 e1])), (9, .d (.tup [M x1 y1 z1, .int .i64 e1])), (9, .d (.tup [M x2 y2 z2, .int .i64 e2])), (9, .d (.tup [M x2 y2 z2, .int .i64 e2])), (8, .d (.tup [.int .i64 n3, .int .i64 e3])), (7, .d (.tup [.int .i64 n3, .int .i64 e3])),
      (9, .d (.bool true)), (4, .d (.bool true)), (4, .d (.bool true)), (4, .d (.bool true)), (4, .d (.bool true)), (4, .d (.bool true))] []
    (fs := [rv (cnt x y z a p) = rv (.tup [M x1 y1 z1, .int .i64 e1]), rv (cnt x y z a p) = rv (.tup [M x1 y1 z1, .int .i64 e1]), rv (swp x y z a p) = rv (.tup [M x2 y2 z2, .int .i64 e2]), rv (swp x y z a p) = rv (.tup [M x2 y2 z2, .int .i64 e2]),
      rv (nrg x y x' y') = rv (.tup [.int .i64 n3, .int .i64 e3]), rv (nrg x y x' y') = rv (.tup [.int .i64 n3, .int .i64 e3]),
      evRI (evF body (mkSp isS L3) 0) (mkSp isS L3) (.op (.eqs false [(0, .i), (1, .i), (2, .b)] (.c (M x1 y1 z1)) (.c (M x1 y1 z1)))) [] [] = rv (.bool true),
      evRI (evF body (mkSp isS L3) 0) (mkSp isS L3) (.op (.bin .eql (.c (.int .i64 e1)) (.c (.int .i64 e1)))) [] [] = rv (.bool true),
      evRI (evF body (mkSp isS L3) 0) (mkSp isS L3) (.op (.eqs false [(0, .i), (1, .i), (2, .b)] (.c (M x2 y2 z2)) (.c (M x2 y2 z2)))) [] [] = rv (.bool true),
      evRI (evF body (mkSp isS L3) 0) (mkSp isS L3) (.op (.bin .eql (.c (.int .i64 e2)) (.c (.int .i64 e2)))) [] [] = rv (.bool true),
      evRI (evF body (mkSp isS L3) 0) (mkSp isS L3) (.op (.bin .eql (.c (.int .i64 n3)) (.c (.int .i64 n3)))) [] [] = rv (.bool true),
      evRI (evF body (mkSp isS L3) 0) (mkSp isS L3) (.op (.bin .eql (.c (.int .i64 e3)) (.c (.int .i64 e3)))) [] [] = rv (.bool true)]) (by kernel_rfl) ?_
  rw [q1, q2, q3]
  exact ⟨rfl, rfl, rfl, rfl, rfl, rfl, eqs_same _ _ _ _ _, eql_same _ _ _, eqs_same _ _ _ _ _, eql_same _ _ _, eql_same _ _ _, eql_same _ _ _, trivial⟩

def F3 : Ev.Fn
  | [.agg [.int .i64 x, .int .i64 y, .bool z], .agg [.int .i64 x', .int .i64 y', .bool z'], .int .i64 a, .int .i64 p] => some (.bool true)
  | _ => none

theorem p3 : Pure Try.prog G0 3 F3 := by
  refine pure_run (sp := mkSp isS L3) bodyOK (mkSp_ok callS (all_cons p9 (all_cons p10 (all_cons p11 (all_cons p12 (all_cons p13 (all_cons p14 (all_cons p15 all_nil)))))))) (mkSp_S _) mix (callable_of (by kernel_rfl)) ?_
  intro ds d h
  unfold F3 at h
  split at h
  · rename_i x y z x' y' z' a p
    injection h with h; subst h
    exact ⟨_, _, _, e3 x y z x' y' z' a p, rfl⟩
  · cases h

def tyM : Ty := .st [.int .i64, .int .i64, .bool]

theorem arg_M {H : Type} {d : DataW H} {x : D} (h : tyM.Arg d x) : ∃ a b c, x = M a b c ∧ (Lit.int .i64 a).wf = true ∧ (Lit.int .i64 b).wf = true := by
  obtain ⟨ds, h1, h2⟩ := h
  obtain ⟨els, cells, rfl, hs, rfl⟩ := h1
  obtain ⟨d1, dr1, c1, cr1, rfl, rfl, ⟨n1, rfl, rfl, w1⟩, d2, dr2, c2, cr2, rfl, rfl, ⟨n2, rfl, rfl, w2⟩, d3, dr3, c3, cr3, rfl, rfl, ⟨b3, rfl, rfl⟩, rfl, rfl⟩ := hs
  simp only [tyM, Ty.ag, if_true] at h2
  exact ⟨n1, n2, b3, by simpa [M] using h2, w1, w2⟩

theorem arg_int {H : Type} {d : DataW H} {x : D} {k : IntKind} (h : (Ty.int k).Arg d x) : ∃ n, x = .int k n ∧ (Lit.int k n).wf = true := by
  obtain ⟨ds, ⟨n, rfl, rfl, w⟩, h2⟩ := h
  simp [Ty.ag] at h2
  exact ⟨n, h2.symm, w⟩

theorem own : ownKnob Try.prog.godebug = none := by kernel_rfl

theorem matches_contract (H : Type) (enc : TypeId × Value → H) (W : World) (base : Nat) (args : Array Value) (ds gs : List (DataW H)) (before : List MemPlace)
    (hval : ∀ (j : Nat) t v, Try.f3.params[j]? = some t → args[j]? = some v → Value.okWide Try.prog W .any base t v)
    (hW : DataW.Whole enc Try.prog Try.f3.params.toList Rows.meterMatchesReferenceSpec.vars false W args.toList ds gs before) :
    Calls Try.prog 3 args W fun e W' => ∃ v, e = .returned v ∧ Rows.meterMatchesReferenceSpec.post enc Try.prog Try.f3 false true false false W args v W' := by
  have hlen : ∃ d1 d2 d3 d4, ds = [d1, d2, d3, d4] ∧ gs = [] := by
    obtain ⟨p, q, hA, hV, _⟩ := hW
    obtain ⟨rfl, _⟩ := trodVars_none hV
    have := (trodAll_length hA).2
    rw [show Try.f3.params.toList.length = 4 by kernel_rfl] at this
    match ds, this with
    | [d1, d2, d3, d4], _ => exact ⟨d1, d2, d3, d4, rfl, rfl⟩
  obtain ⟨d1, d2, d3, d4, rfl, rfl⟩ := hlen
  refine contract_of (tys := [tyM, tyM, .int .i64, .int .i64]) (tb := 4) laidOut (by kernel_rfl) (by kernel_rfl) (by kernel_rfl) rfl p3 ⟨rfl, rfl, rfl⟩ ?_ hval hW
  rintro xs ⟨e1, dr1, x1, xr1, q1, rfl, a1, e2, dr2, x2, xr2, q2, rfl, a2, e3, dr3, x3, xr3, q3, rfl, a3, e4, dr4, x4, xr4, q4, rfl, a4, q5, rfl⟩
  obtain ⟨x, y, z, rfl, _⟩ := arg_M a1
  obtain ⟨x', y', z', rfl, _⟩ := arg_M a2
  obtain ⟨a, rfl, _⟩ := arg_int a3
  obtain ⟨p, rfl, _⟩ := arg_int a4
  rfl

theorem matches_lifted (os : Os) (started : os.Started) (H : Type) (enc : TypeId × Value → H) :
    ReturnsInHanded {} Try.checked os 3 .any (Rows.meterMatchesReferenceSpec.pre6 enc Try.prog Try.f3 Rows.meterMatchesReferenceRow.domain false) (Rows.meterMatchesReferenceSpec.post enc Try.prog Try.f3 false true false false) := by
  refine returnsInHanded_of_change (C := Try.checked) own started (by kernel_rfl) Try.func3
    (ChangeSpec.witness6 (enc := enc) (C := Try.checked) false ⟨#[], #[.agg #[.int .i64 0, .int .i64 0, .bool false], .agg #[.int .i64 0, .int .i64 0, .bool false], .int .i64 0, .int .i64 0], []⟩ 8 (by kernel_rfl) (by kernel_rfl) (by kernel_rfl) (by kernel_rfl)) ?_
  intro W base args ds gs before hval hW _ _
  exact matches_contract H enc W base args ds gs before hval hW

theorem meterMatchesReference_holds : Rows.MeterMatchesReferenceSaid :=
  OpenClaim.holds_of_wide 3 Try.f3 rfl rfl rfl rfl rfl rfl rfl ⟨rfl, rfl, rfl, rfl, rfl⟩ rfl rfl rfl rfl rfl (by kernel_rfl) Try.func3 (by kernel_rfl)
    (of_decide_eq_true (by kernel_rfl)) (by unfold Func.isWrapper; first | (rw [if_pos (by decide +kernel)]; kernel_rfl) | (rw [if_neg (by decide +kernel)]; exact ⟨rfl, rfl⟩))
    (fun os started H enc _ => matches_lifted os started H enc)
end Go.Proofs.Ytgkjmdbjncnlpaa
