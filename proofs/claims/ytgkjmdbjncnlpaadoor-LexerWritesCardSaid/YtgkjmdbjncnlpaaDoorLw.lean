/- LexerWrites: the texts of the tokens, each followed by a blank, have the same tokens, for every source; the variables of the library that the row lists are tied to the program's text. -/
import Derived.Test.YtgkjmdbjncnlpaaDoorKt
import Derived.Test.YtgkjmdbjncnlpaaDoorKl
import Derived.Test.YtgkjmdbjncnlpaaDoorTie
import Derived.Test.YtgkjmdbjncnlpaaDoorCards
import Derived.SevenTiedAt
import Derived.ChangeCalls
namespace Go.Proofs.YtgkjmdbjncnlpaaDoor
open Go.Ev Go.ChangeShapes Go.WideShapes Go.ChangeAt Go.WideMaps Go.WideElems Go.RowKit
set_option linter.unusedVariables false
set_option linter.unusedSimpArgs false
set_option maxRecDepth 100000

theorem lexerWrites_contract (H : Type) (enc : TypeId × Value → H) (W : World) (base : Nat) (args : Array Value) (ds gs : List (DataW H)) (before : List MemPlace)
    (hG : GOK GL (stab W))
    (hval : ∀ (j : Nat) t v, Tryd.f7.params[j]? = some t → args[j]? = some v → Value.okWide Tryd.prog W .any base t v)
    (hW : DataW.Whole enc Tryd.prog Tryd.f7.params.toList Rows.lexerWritesSpec.vars false W args.toList ds gs before) :
    Calls Tryd.prog 7 args W fun e W' => ∃ v, e = .returned v ∧ Rows.lexerWritesSpec.post enc Tryd.prog Tryd.f7 false true false false W args v W' := by
  have hlen : ∃ d1, ds = [d1] ∧ gs = [] := by
    obtain ⟨p, q, hA, hV, _⟩ := hW
    obtain ⟨rfl, _⟩ := trodVars_none hV
    have := (trodAll_length hA).2
    rw [show Tryd.f7.params.toList.length = 1 by kernel_rfl] at this
    match ds, this with
    | [d1], _ => exact ⟨d1, rfl, rfl⟩
  obtain ⟨d1, rfl, rfl⟩ := hlen
  exact contract_ofG (tys := [.str]) (tb := 4) laidOut (by kernel_rfl) (by kernel_rfl) (by kernel_rfl) rfl hG (exF_pure p7) ⟨rfl, rfl, rfl⟩ (fun xs h => lexerWrites_true _ xs h) hval hW

theorem lexerWrites_lifted (os : Os) (started : os.Started) (H : Type) (enc : TypeId × Value → H) :
    ReturnsInHanded {} Tryd.checked os 7 .any (fun w args => (Rows.lexerWritesSpec.pre enc Tryd.prog Tryd.f7 [] false w args ∧ laidMetH Tryd.prog laid5 w) ∧ sizedMet enc Tryd.prog Tryd.f7 (OpenSpec.ofChange Rows.lexerWritesSpec) false w args)
      (Rows.lexerWritesSpec.post enc Tryd.prog Tryd.f7 false true false false) := by
  refine returnsInHanded_of_change_and (C := Tryd.checked) (X := fun w _ => laidMetH Tryd.prog laid5 w) (fun _ _ _ hh h => h.of_heap hh) own started (by kernel_rfl) Tryd.func7
    (ChangeSpec.witness_shaped (enc := enc) (C := Tryd.checked) (os := os) (X := fun w _ => laidMetH Tryd.prog laid5 w) false (World.doorLaid Tryd.prog 4000 os) #[.string ⟨#[]⟩] 8 rfl (World.shaped_of_RefB (by kernel_rfl) (by kernel_rfl)) (by kernel_rfl) (by kernel_rfl) (by kernel_rfl) (door_met os _)) ?_
  intro W base args ds gs before hval hW _ _ hL _
  exact lexerWrites_contract H enc W base args ds gs before (gok_of hL) hval hW

theorem lexerWrites_holds : Rows.LexerWritesSaid :=
  OpenClaim.holds_of_wide 7 Tryd.f7 rfl rfl rfl rfl rfl rfl rfl ⟨rfl, rfl, rfl, rfl, rfl⟩ rfl rfl rfl rfl rfl (by kernel_rfl) Tryd.func7 (by kernel_rfl)
    (of_decide_eq_true (by kernel_rfl)) (by unfold Func.isWrapper; first | (rw [if_pos (by decide +kernel)]; kernel_rfl) | (rw [if_neg (by decide +kernel)]; exact ⟨rfl, rfl⟩))
    (fun os started H enc _ => lexerWrites_lifted os started H enc)

theorem lexerWrites_card : Rows.LexerWritesCardSaid :=
  Claim7.holds_tied_plain_at .later [] [.data, .data, .data, .sentinel, .sentinel] true (true, "5d6a2adc1b7722c716f88ded3abfa30e7dcb2029d9b0574fe13fb8289b9329c0") true
    lexerWrites_holds (fun _ h => by cases h) (by kernel_rfl) (fun _ h => by cases h) lexerWrites_row_tie rfl ⟨rfl, rfl⟩ (by kernel_rfl) rfl
    (fun f fn hf hfn => by
      obtain rfl : f = 7 := Option.some.inj ((show Tryd.prog.funcNamed "chargepark/chargeparklaw01.LexerWrites" = some 7 by kernel_rfl).symm.trans hf) |>.symm
      obtain rfl : fn = Tryd.f7 := (Option.some.inj (Tryd.func7.symm.trans hfn)).symm
      exact ⟨by kernel_rfl, fun j t ht => by
        rw [Tryd.params7] at ht
        have hm : t ∈ [9] := by simpa using Array.mem_of_getElem? ht
        have hall : ([9].all fun u => !Tryd.prog.wantsStandIn u) = true := by kernel_rfl
        exact (show Tryd.prog.wantsStandIn t = false by simpa using List.all_eq_true.1 hall t hm)⟩)
    (by kernel_rfl)
end Go.Proofs.YtgkjmdbjncnlpaaDoor
