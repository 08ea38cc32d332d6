/- What is known of the meter's functions, as functions of plain data; heads, lists of ticks. -/
import Derived.Test.YtgkjmdbjncnlpaaGs
namespace Go.Proofs.Ytgkjmdbjncnlpaa
open Go.Ev
set_option linter.unusedVariables false
set_option linter.unusedSimpArgs false
set_option maxRecDepth 100000

theorem p10 : Pure Try.prog G0 10 F10 := by
  refine pure_run (sp := mkSp isS [(18, F18), (19, F19)]) bodyOK (mkSp_ok callS (all_cons p18 (all_cons p19 all_nil))) (mkSp_S _) mix (callS 10 (by decide)) ?_
  intro ds d h
  unfold F10 at h
  split at h
  · rename_i x y z a p
    injection h with h; subst h
    obtain ⟨h', he⟩ := e10 (mkSp isS [(18, F18), (19, F19)]) rfl rfl 0 x y z a p
    exact ⟨_, _, _, he, rfl⟩
  · cases h

theorem p11 : Pure Try.prog G0 11 F10 := by
  refine pure_run (sp := mkSp isS [(22, F18), (23, F23)]) bodyOK (mkSp_ok callS (all_cons p22 (all_cons p23 all_nil))) (mkSp_S _) mix (callS 11 (by decide)) ?_
  intro ds d h
  unfold F10 at h
  split at h
  · rename_i x y z a p
    injection h with h; subst h
    obtain ⟨h', he⟩ := e11 (mkSp isS [(22, F18), (23, F23)]) rfl rfl 0 x y z a p
    exact ⟨_, _, _, he, rfl⟩
  · cases h

theorem p12 : Pure Try.prog G0 12 F12 := by
  refine pure_run (sp := mkSp isS [(18, F18)]) bodyOK (mkSp_ok callS (all_cons p18 all_nil)) (mkSp_S _) mix (callS 12 (by decide)) ?_
  intro ds d h
  unfold F12 at h
  split at h
  · rename_i x y z s r
    injection h with h; subst h
    obtain ⟨h', he⟩ := e12 (mkSp isS [(18, F18)]) rfl 0 x y z s r
    exact ⟨_, _, _, he, rfl⟩
  · cases h

theorem p13 : Pure Try.prog G0 13 F12 := by
  refine pure_run (sp := mkSp isS [(22, F18)]) bodyOK (mkSp_ok callS (all_cons p22 all_nil)) (mkSp_S _) mix (callS 13 (by decide)) ?_
  intro ds d h
  unfold F12 at h
  split at h
  · rename_i x y z s r
    injection h with h; subst h
    obtain ⟨h', he⟩ := e13 (mkSp isS [(22, F18)]) rfl 0 x y z s r
    exact ⟨_, _, _, he, rfl⟩
  · cases h

theorem p14 : Pure Try.prog G0 14 F14 := by
  refine pure_run (sp := mkSp isS [(18, F18)]) bodyOK (mkSp_ok callS (all_cons p18 all_nil)) (mkSp_S _) mix (callS 14 (by decide)) ?_
  intro ds d h
  unfold F14 at h
  split at h
  · rename_i x y z x' y' z'
    injection h with h; subst h
    obtain ⟨h', he⟩ := e14 (mkSp isS [(18, F18)]) rfl 0 x y z x' y' z'
    exact ⟨_, _, _, he, rfl⟩
  · cases h

theorem p15 : Pure Try.prog G0 15 F14 := by
  refine pure_run (sp := mkSp isS [(22, F18)]) bodyOK (mkSp_ok callS (all_cons p22 all_nil)) (mkSp_S _) mix (callS 15 (by decide)) ?_
  intro ds d h
  unfold F14 at h
  split at h
  · rename_i x y z x' y' z'
    injection h with h; subst h
    obtain ⟨h', he⟩ := e15 (mkSp isS [(22, F18)]) rfl 0 x y z x' y' z'
    exact ⟨_, _, _, he, rfl⟩
  · cases h

/-! ### head -/

def F9 : Ev.Fn
  | [] => some (.bool true)
  | _ => none

def L9 : List (FuncId × Ev.Fn) := [(10, F10), (12, F12), (14, F14)]

theorem e9 : evF body (mkSp isS L9) 1 9 [] [] = some (.ret (.d (.bool true)), []) := by kernel_rfl

theorem p9 : Pure Try.prog G0 9 F9 := by
  refine pure_run (sp := mkSp isS L9) bodyOK (mkSp_ok callS (all_cons p10 (all_cons p12 (all_cons p14 all_nil)))) (mkSp_S _) mix (callS 9 (by decide)) ?_
  intro ds d h
  unfold F9 at h
  split at h
  · injection h with h; subst h
    exact ⟨_, _, _, e9, rfl⟩
  · cases h

theorem F10_M (x y : Int) (z : Bool) (a p : Int) : F10 [.agg [.int .i64 x, .int .i64 y, .bool z], .int .i64 a, .int .i64 p] = some (cnt x y z a p) := rfl
theorem F12_M (x y : Int) (z : Bool) (s r : Int) : F12 [.agg [.int .i64 x, .int .i64 y, .bool z], .int .i64 s, .int .i64 r] = some (swp x y z s r) := rfl
theorem F14_M (x y : Int) (z : Bool) (x' y' : Int) (z' : Bool) : F14 [.agg [.int .i64 x, .int .i64 y, .bool z], .agg [.int .i64 x', .int .i64 y', .bool z']] = some (nrg x y x' y') := rfl

/-- Answers of a meter and an error, of a number and an error. -/
theorem cnt_shape (x y : Int) (z : Bool) (a p : Int) : ∃ x' y' z' e, cnt x y z a p = .tup [M x' y' z', .int .i64 e] := by
  unfold cnt; split
  · split <;> exact ⟨_, _, _, _, rfl⟩
  · exact ⟨_, _, _, _, rfl⟩
theorem swp_shape (x y : Int) (z : Bool) (s r : Int) : ∃ x' y' z' e, swp x y z s r = .tup [M x' y' z', .int .i64 e] := by
  unfold swp; split
  · split <;> exact ⟨_, _, _, _, rfl⟩
  · exact ⟨_, _, _, _, rfl⟩
theorem nrg_shape (x y x' y' : Int) : ∃ n e, nrg x y x' y' = .tup [.int .i64 n, .int .i64 e] := by
  unfold nrg; split
  · split
    · split <;> exact ⟨_, _, rfl⟩
    · exact ⟨_, _, rfl⟩
  · exact ⟨_, _, rfl⟩
end Go.Proofs.Ytgkjmdbjncnlpaa
