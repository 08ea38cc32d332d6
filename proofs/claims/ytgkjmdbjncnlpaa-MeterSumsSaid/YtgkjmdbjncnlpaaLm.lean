/- MeterSums: after any ticks the register has changed by 2300 times the sum of amperes times phases, whatever their order, for every meter and every list of ticks, without conditions. -/
import Derived.Test.YtgkjmdbjncnlpaaKo
import Derived.Test.YtgkjmdbjncnlpaaEvW
import Derived.ChangeCalls
namespace Go.Proofs.Ytgkjmdbjncnlpaa
open Go.Ev Go.ChangeShapes Go.WideShapes Go.ChangeAt Go.RowKit
set_option linter.unusedVariables false
set_option linter.unusedSimpArgs false
set_option maxRecDepth 100000

theorem own : ownKnob Try.prog.godebug = none := by kernel_rfl

theorem meterSums_contract (H : Type) (enc : TypeId × Value → H) (W : World) (base : Nat) (args : Array Value) (ds gs : List (DataW H)) (before : List MemPlace)
    (hval : ∀ (j : Nat) t v, Try.f4.params[j]? = some t → args[j]? = some v → Value.okWide Try.prog W .any base t v)
    (hW : DataW.Whole enc Try.prog Try.f4.params.toList Rows.meterSumsSpec.vars false W args.toList ds gs before) :
    Calls Try.prog 4 args W fun e W' => ∃ v, e = .returned v ∧ Rows.meterSumsSpec.post enc Try.prog Try.f4 false true false false W args v W' := by
  have hlen : ∃ d1 d2 d3, ds = [d1, d2, d3] ∧ gs = [] := by
    obtain ⟨p, q, hA, hV, _⟩ := hW
    obtain ⟨rfl, _⟩ := trodVars_none hV
    have := (trodAll_length hA).2
    rw [show Try.f4.params.toList.length = 3 by kernel_rfl] at this
    match ds, this with
    | [d1, d2, d3], _ => exact ⟨d1, d2, d3, rfl, rfl⟩
  obtain ⟨d1, d2, d3, rfl, rfl⟩ := hlen
  exact contract_of (tys := [tyM, tyP, .int .u16]) (tb := 4) laidOut (by kernel_rfl) (by kernel_rfl) (by kernel_rfl) rfl (exF_pure p4) ⟨rfl, rfl, rfl⟩ (fun xs h => meterSums_true _ xs h) hval hW

theorem meterSums_lifted (os : Os) (started : os.Started) (H : Type) (enc : TypeId × Value → H) :
    ReturnsInHanded {} Try.checked os 4 .any (Rows.meterSumsSpec.pre6 enc Try.prog Try.f4 Rows.meterSumsRow.domain false) (Rows.meterSumsSpec.post enc Try.prog Try.f4 false true false false) := by
  refine returnsInHanded_of_change (C := Try.checked) own started (by kernel_rfl) Try.func4
    (ChangeSpec.witness6 (enc := enc) (C := Try.checked) false ⟨#[], #[.agg #[.int .i64 0, .int .i64 0, .bool false], .slice none 0 0, .int .u16 0], []⟩ 8 (by kernel_rfl) (by kernel_rfl) (by kernel_rfl) (by kernel_rfl)) ?_
  intro W base args ds gs before hval hW _ _
  exact meterSums_contract H enc W base args ds gs before hval hW

theorem meterSums_holds : Rows.MeterSumsSaid :=
  OpenClaim.holds_of_wide 4 Try.f4 rfl rfl rfl rfl rfl rfl rfl ⟨rfl, rfl, rfl, rfl, rfl⟩ rfl rfl rfl rfl rfl (by kernel_rfl) Try.func4 (by kernel_rfl)
    (of_decide_eq_true (by kernel_rfl)) (by unfold Func.isWrapper; first | (rw [if_pos (by decide +kernel)]; kernel_rfl) | (rw [if_neg (by decide +kernel)]; exact ⟨rfl, rfl⟩))
    (fun os started H enc _ => meterSums_lifted os started H enc)
end Go.Proofs.Ytgkjmdbjncnlpaa
