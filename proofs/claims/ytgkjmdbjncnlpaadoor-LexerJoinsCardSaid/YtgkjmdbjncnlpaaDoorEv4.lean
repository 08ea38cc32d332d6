/- From a function of plain data to a row's contract, where package variables are read. -/
import Derived.Test.YtgkjmdbjncnlpaaDoorEvW
namespace Go.Ev
open Go.ChangeShapes Go.WideShapes Go.ChangeAt Go.RowKit
set_option linter.unusedVariables false
set_option linter.unusedSimpArgs false

section
variable {H : Type} {enc : TypeId × Value → H} {P : Program} {W : World}

theorem contract_ofG {G : Glob} {f : FuncId} {fn : Func} {s : ChangeSpec} {apart fresh handsOn : Bool} {tys : List Ty} {tb : TypeId} {F : List D → Option D}
    (hl : laidOutB P = true) (hf : Ty.fitA P tys fn.params.toList = true) (hr : fn.resultTypes = #[tb]) (hb : P.underlying tb = some .bool) (hv : s.vars = [])
    (hG : GOK G (stab W)) (hp : Pure P G f F) {args : Array Value} {ds gs : List (DataW H)} {before : List MemPlace} {base : Nat}
    (hs : (s.fn H (ds ++ gs)).results = [.lit (.bool true)] ∧ (s.fn H (ds ++ gs)).args = ds ∧ (s.fn H (ds ++ gs)).vars = [])
    (hF : ∀ xs : List D, Ty.Args tys ds xs → F xs = some (.bool true))
    (hval : ∀ (j : Nat) t v, fn.params[j]? = some t → args[j]? = some v → Value.okWide P W .any base t v)
    (hW : DataW.Whole enc P fn.params.toList s.vars apart W args.toList ds gs before) :
    Calls P f args W fun e W' => ∃ v, e = .returned v ∧ s.post enc P fn apart fresh handsOn false W args v W' := by
  have hlt : ∀ p ∈ before, p.block < W.heap.size := fun p hp => by simpa using hW.lt p hp
  have hW' := hW
  obtain ⟨p, q, hA, hV, rfl, hfz, hnd⟩ := hW
  rw [hv] at hV
  obtain ⟨rfl, rfl⟩ := trodVars_none hV
  obtain ⟨xs, k1, k2⟩ := args_is tys _ _ _ _ hf (fun j t v e1 e2 => ⟨base, hval j t v (by simpa using e1) (by simpa using e2)⟩) hA
  have := hp.2 (stab W) W xs args.toList _ (stab_inv W) hG k2 (hF xs k1)
  refine Calls.mono this ?_
  rintro e W' ⟨v, S', rfl, t, r⟩
  have hvb : v = .bool true := r
  subst hvb
  refine ⟨_, rfl, ds, [], p ++ [], [], p, [], hW', ?_, ?_, ?_, (below_of t).frame _, fun h => by cases h⟩
  · rw [hr, hs.1]
    exact trodAll_cons_mk (shut_bool hb _) trodAll_mk0
  · rw [hs.2.1]
    exact args_kept hl (below_of t) tys _ _ _ _ hf hA (fun x hx => hlt x (by simpa using hx))
  · rw [hs.2.2, hv]; rfl

end
end Go.Ev
