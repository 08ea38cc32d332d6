/- The sums of the meter, in plain numbers. -/
import Derived.Test.YtgkjmdbjncnlpaaKn
namespace Go.Proofs.Ytgkjmdbjncnlpaa
open Go.Ev
set_option linter.unusedVariables false
set_option linter.unusedSimpArgs false
set_option maxRecDepth 100000

theorem cells2_len : ∀ (l : List (Int × Int)), (cells2 l).length = l.length * 2
  | [] => rfl
  | p :: l => by
    have := cells2_len l
    simp only [cells2, List.flatMap_cons, List.length_append, List.length_cons, List.length_nil] at *
    omega

theorem cells2_all : ∀ (l : List (Int × Int)), (cells2 l).all cellD = true
  | [] => rfl
  | p :: l => by
    have := cells2_all l
    simp only [cells2, List.flatMap_cons, List.all_append, this, Bool.and_true] at *
    simp [this, cellD]

theorem cells2_app (a b : List (Int × Int)) : cells2 a ++ cells2 b = cells2 (a ++ b) := by simp [cells2]

theorem sums (x y : Int) (z ex : Bool) (l : List (Int × Int)) (c : Int) (hc : 0 ≤ c) (hc' : c ≤ 65535) (hok : okP l) : F4 2000 [M x y z, .lst 2 l.length (cells2 l) ex, .int .u16 c] = some (.bool true) := by
  unfold F4 S4_1
  simp only [head_N, F16_N, bind_mk, gB_mk]
  cases hu : use x y l.length with
  | false => rfl
  | true =>
    obtain ⟨h1, h2, h3, h4⟩ := use_iff.1 hu
    have hh := okM_iff.1 h1
    simp only [Bool.not_true, cond_f]
    by_cases h0 : l.length = 0
    · have : ((l.length : Int) == 0) = true := by simp [h0]
      rw [this]; rfl
    · have e0 : ((l.length : Int) == 0) = false := by simp [h0]
      have w0 : IntKind.i64.wrap c = c := wrap64_in (by omega) (by omega)
      have hk : ∃ k : Nat, k < l.length ∧ Int.tmod (IntKind.i64.wrap c) (l.length : Int) = k := by
        rw [w0, Int.tmod_eq_emod_of_nonneg hc]
        have q1 := Int.emod_nonneg c (show (l.length : Int) ≠ 0 by omega)
        have q2 := Int.emod_lt_of_pos c (show (0 : Int) < l.length by omega)
        exact ⟨(c % (l.length : Int)).toNat, by omega, by omega⟩
      obtain ⟨k, hk, hke⟩ := hk
      have a1 : (decide ((0 : Int) ≤ (k : Int)) && decide ((k : Int) ≤ (l.length : Int))) = true := by simp; omega
      have hr : okP (l.drop k ++ l.take k) := by
        intro p hp
        rcases List.mem_append.1 hp with hp | hp
        · exact hok p (List.mem_of_mem_drop hp)
        · exact hok p (List.mem_of_mem_take hp)
      have hl : (l.drop k ++ l.take k).length = 0 + (l.length - k) + k := by simp; omega
      have hs : sumP (l.drop k ++ l.take k) = sumP l := by
        rw [sumP_append, Int.add_comm, ← sumP_append, List.take_append_drop]
      have s := sumP_le l
      have t1 := F17_N (x := x) (y := y) (z := z) (ex := ex) hok (by omega) hh.1 hh.2.1 (by omega) (by omega)
      have t2 := F17_N (x := x) (y := y) (z := z) (ex := false) hr (by rw [hl]; omega) hh.1 hh.2.1 (by omega) (by omega)
      rw [hl, hs] at t2
      have e1 : (cells2 (l.drop k)).length = (l.length - k) * 2 := by rw [cells2_len]; simp
      have e2 : (cells2 (l.take k)).length = k * 2 := by rw [cells2_len]; simp; omega
      have a2 : (decide ((0 + (l.length - k)) * 2 ≤ 140737488355328) && decide ((0 + (l.length - k)) ≤ 9223372036854775807)) = true := by simp; omega
      have a3 : ((0 + (l.length - k)) == (0 + (l.length - k)) && (decide (((0 + (l.length - k)) + k) * 2 ≤ 140737488355328) && decide (((0 + (l.length - k)) + k) ≤ 9223372036854775807))) = true := by simp; omega
      simp only [e0, cond_f, hke, Bool.not_false, ass_mk, a1, Int.toNat_natCast, take_cells2, drop_cells2, t1, bind_mk, gB_mk, gT_mk, gC_mk, gA_mk, gI_mk, gE_mk]
      rw [show List.take (l.length - k) (l.drop k) = l.drop k from List.take_of_length_le (by simp)]
      simp only [cells2_all, e1, e2, beq_self_eq_true, Bool.and_self, a2, a3, ass_mk, List.nil_append, cells2_app, t2, bind_mk, gB_mk, gT_mk, gC_mk, gA_mk, gI_mk, gE_mk, cond_t, Bool.and_true]
      have w1 : IntKind.i64.wrap (2300 * sumP l) = 2300 * sumP l := wrap64_in (by omega) (by omega)
      have w2 : IntKind.i64.wrap (y - 2300 * sumP l) = y - 2300 * sumP l := wrap64_in (by omega) (by omega)
      have w3 : IntKind.i64.wrap (y + 2300 * sumP l) = y + 2300 * sumP l := wrap64_in (by omega) (by omega)
      rw [w1, w2, w3]
      have a4 : (decide ((0 + (l.length - k) + k) * 2 ≤ 140737488355328) && decide (0 + (l.length - k) + k ≤ 9223372036854775807)) = true := by simp; omega
      simp only [a4, ass_mk]
      cases z <;> simp [turn, a4] <;> rfl

theorem meterSums_true {H : Type} (ds : List (DataW H)) (xs : List D) (h : Ty.Args [tyM, tyP, .int .u16] ds xs) : exF F4 xs = some (.bool true) := by
  obtain ⟨e1, dr1, x1, xr1, q1, rfl, a1, e2, dr2, x2, xr2, q2, rfl, a2, e3, dr3, x3, xr3, q3, rfl, a3, q5, rfl⟩ := h
  obtain ⟨x, y, z, rfl⟩ := arg_M a1
  obtain ⟨l, ex, hok, rfl⟩ := arg_P a2
  obtain ⟨c, rfl, hc⟩ := arg_int a3
  have := u16_wf hc
  exact exF_of (sums x y z ex l c this.1 this.2 hok)

end Go.Proofs.Ytgkjmdbjncnlpaa
