/- MeterHours: with a constant current, 360 ticks count 230 watt-hours for each ampere and phase, for every meter and all numbers, without conditions. -/
import Derived.Test.YtgkjmdbjncnlpaaKn
import Derived.Test.YtgkjmdbjncnlpaaEvW
import Derived.ChangeCalls
namespace Go.Proofs.Ytgkjmdbjncnlpaa
open Go.Ev Go.ChangeShapes Go.WideShapes Go.ChangeAt Go.RowKit
set_option linter.unusedVariables false
set_option linter.unusedSimpArgs false
set_option maxRecDepth 100000

theorem own : ownKnob Try.prog.godebug = none := by kernel_rfl

theorem meterHours_contract (H : Type) (enc : TypeId × Value → H) (W : World) (base : Nat) (args : Array Value) (ds gs : List (DataW H)) (before : List MemPlace)
    (hval : ∀ (j : Nat) t v, Try.f8.params[j]? = some t → args[j]? = some v → Value.okWide Try.prog W .any base t v)
    (hW : DataW.Whole enc Try.prog Try.f8.params.toList Rows.meterHoursSpec.vars false W args.toList ds gs before) :
    Calls Try.prog 8 args W fun e W' => ∃ v, e = .returned v ∧ Rows.meterHoursSpec.post enc Try.prog Try.f8 false true false false W args v W' := by
  have hlen : ∃ d1 d2 d3 d4, ds = [d1, d2, d3, d4] ∧ gs = [] := by
    obtain ⟨p, q, hA, hV, _⟩ := hW
    obtain ⟨rfl, _⟩ := trodVars_none hV
    have := (trodAll_length hA).2
    rw [show Try.f8.params.toList.length = 4 by kernel_rfl] at this
    match ds, this with
    | [d1, d2, d3, d4], _ => exact ⟨d1, d2, d3, d4, rfl, rfl⟩
  obtain ⟨d1, d2, d3, d4, rfl, rfl⟩ := hlen
  exact contract_of (tys := [tyM, .int .u8, .int .u8, .int .u8]) (tb := 4) laidOut (by kernel_rfl) (by kernel_rfl) (by kernel_rfl) rfl (exF_pure p8) ⟨rfl, rfl, rfl⟩ (fun xs h => meterHours_true _ xs h) hval hW

theorem meterHours_lifted (os : Os) (started : os.Started) (H : Type) (enc : TypeId × Value → H) :
    ReturnsInHanded {} Try.checked os 8 .any (Rows.meterHoursSpec.pre6 enc Try.prog Try.f8 Rows.meterHoursRow.domain false) (Rows.meterHoursSpec.post enc Try.prog Try.f8 false true false false) := by
  refine returnsInHanded_of_change (C := Try.checked) own started (by kernel_rfl) Try.func8
    (ChangeSpec.witness6 (enc := enc) (C := Try.checked) false ⟨#[], #[.agg #[.int .i64 0, .int .i64 0, .bool false], .int .u8 0, .int .u8 0, .int .u8 0], []⟩ 8 (by kernel_rfl) (by kernel_rfl) (by kernel_rfl) (by kernel_rfl)) ?_
  intro W base args ds gs before hval hW _ _
  exact meterHours_contract H enc W base args ds gs before hval hW

theorem meterHours_holds : Rows.MeterHoursSaid :=
  OpenClaim.holds_of_wide 8 Try.f8 rfl rfl rfl rfl rfl rfl rfl ⟨rfl, rfl, rfl, rfl, rfl⟩ rfl rfl rfl rfl rfl (by kernel_rfl) Try.func8 (by kernel_rfl)
    (of_decide_eq_true (by kernel_rfl)) (by unfold Func.isWrapper; first | (rw [if_pos (by decide +kernel)]; kernel_rfl) | (rw [if_neg (by decide +kernel)]; exact ⟨rfl, rfl⟩))
    (fun os started H enc _ => meterHours_lifted os started H enc)
end Go.Proofs.Ytgkjmdbjncnlpaa
