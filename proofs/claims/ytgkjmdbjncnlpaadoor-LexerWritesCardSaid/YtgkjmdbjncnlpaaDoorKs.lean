/- The laws on joined texts and on errors, in plain lists of bytes. -/
import Derived.Test.YtgkjmdbjncnlpaaDoorKr
namespace Go.Proofs.YtgkjmdbjncnlpaaDoor
open Go.Ev
set_option linter.unusedVariables false
set_option linter.unusedSimpArgs false
set_option maxRecDepth 100000

theorem fits_ok {n : Nat} (h : n ≤ 1000000) : fitsS n = true := decide_eq_true (by omega)

theorem joins (a b : List UInt8) : F6 9000 [.str a, .str b] = some (.bool true) := by
  unfold F6 S6_1
  simp only [head_N, bind_mk, gB_mk]
  by_cases ha : (a.length : Int) > 8000
  · rw [decide_eq_true ha]; rfl
  by_cases hb : (b.length : Int) > 8000
  · rw [decide_eq_true hb, decide_eq_false ha]; rfl
  rw [decide_eq_false ha, decide_eq_false hb, cond_f, cond_f]
  simp only [F10_eq]
  cases hqa : lexF a with
  | error e =>
    have he := lexF_err hqa
    cases hqb : lexF b with
    | error e2 => simp only [lexD, bind_mk, gT_mk, gC_mk, gL_mk, gI_mk, gE_mk, bne_iff_ne.2 he, cond_t]
    | ok m => simp only [lexD, bind_mk, gT_mk, gC_mk, gL_mk, gI_mk, gE_mk, bne_iff_ne.2 he, cond_t]
  | ok l =>
    cases hqb : lexF b with
    | error e2 =>
      have he := lexF_err hqb
      simp only [lexD, bind_mk, gT_mk, gC_mk, gL_mk, gI_mk, gE_mk, show ((0 : Int) != 0) = false from rfl, cond_f, bne_iff_ne.2 he, cond_t]
    | ok m =>
      obtain ⟨sa, la, la2, ba⟩ := lexF_ok hqa
      obtain ⟨sb, lb, lb2, bb⟩ := lexF_ok hqb
      have n1 : (a ++ ([10] : List UInt8)) ++ b = a ++ 10 :: b := by simp
      have n2 : (a ++ 10 :: b).length = a.length + b.length + 1 := by simp; omega
      have f1 : fitsS (a.length + ([10] : List UInt8).length) = true := fits_ok (by simp; omega)
      have f2 : fitsS ((a ++ ([10] : List UInt8)).length + b.length) = true := fits_ok (by simp; omega)
      have w1 : IntKind.i64.wrap (IntKind.i64.wrap ((a.length : Int) + (b.length : Int)) + 1) = ((a.length + b.length + 1 : Nat) : Int) := by rw [wrN (by omega), wr (by omega)]
      have w2 : IntKind.i64.wrap ((l.length : Int) + (m.length : Int)) = ((l.length + m.length : Nat) : Int) := wrN (by omega)
      have w3 : IntKind.i64.wrap ((a.length : Int) + 1) = ((a.length + 1 : Nat) : Int) := wr (by omega)
      simp only [lexD, bind_mk, gT_mk, gC_mk, gL_mk, gI_mk, gE_mk, show ((0 : Int) != 0) = false from rfl, cond_f, f1, f2, ass_mk, n1, w1, w2, w3]
      by_cases hbig : a.length + b.length + 1 > 8000
      · rw [show lexF (a ++ 10 :: b) = .error (2, 0) from if_pos (by omega)]
        rw [decide_eq_true (show (((a.length + b.length + 1 : Nat) : Int) > 8000) by omega)]
        rfl
      · rw [decide_eq_false (show ¬ (((a.length + b.length + 1 : Nat) : Int) > 8000) by omega)]
        have hF : lexF (a ++ 10 :: b) = lexS 9000 (a ++ 10 :: b) 0 0 := if_neg (by omega)
        rw [hF]
        obtain ⟨j1, j2⟩ := lex_joined la lb la2 (by omega)
        by_cases hm : 2000 < l.length + m.length
        · obtain ⟨i, hi, e⟩ := j2 hm
          rw [e, decide_eq_true (show (((l.length + m.length : Nat) : Int) > 2000) by omega)]
          simp only [bind_mk, gT_mk, gC_mk, gL_mk, gI_mk, gE_mk, cond_t, cond_f, beq_self_eq_true]
          rw [decide_eq_true (show ((i : Int) > (a.length : Int)) by omega)]
        · rw [j1 (by omega), decide_eq_false (show ¬ (((l.length + m.length : Nat) : Int) > 2000) by omega)]
          have ml : (l ++ m.map (Tok.shift (a.length + 1))).length = l.length + m.length := by simp
          have m1 : (l ++ m.map (Tok.shift (a.length + 1))).take l.length = l := List.take_left
          have m2 : (l ++ m.map (Tok.shift (a.length + 1))).drop l.length = m.map (Tok.shift (a.length + 1)) := List.drop_left
          have a4 : (decide ((0 : Int) ≤ (l.length : Int)) && decide ((l.length : Int) ≤ ((l.length + m.length : Nat) : Int))) = true := by rw [decide_eq_true (by omega), decide_eq_true (by omega)]; rfl
          have f1 := fun e1 e2 => F12_eq l l e1 e2 0 (by omega) (by omega) (fun x hx => by have := ba x hx; omega)
          have f2 := fun e1 e2 => F12_eq m (m.map (Tok.shift (a.length + 1))) e1 e2 (a.length + 1) (by omega) (by omega) (fun x hx => by have := bb x hx; omega)
          rw [same_refl] at f1
          rw [same_shift, List.length_map] at f2
          have full : List.take ((l.length + m.length - l.length) * 4) (toksD (m.map (Tok.shift (a.length + 1)))) = toksD (m.map (Tok.shift (a.length + 1))) := List.take_of_length_le (by rw [toksD_len, List.length_map]; omega)
          simp only [bind_mk, gT_mk, gC_mk, gL_mk, gI_mk, gE_mk, cond_t, cond_f, beq_self_eq_true, ml, a4, ass_mk, Int.toNat_natCast, take_toks, drop_toks, m1, m2, full]
          rw [show ((0 : Nat) : Int) = 0 from rfl] at f1
          rw [f1]
          simp only [bind_mk, gB_mk, cond_t]
          rw [show l.length + m.length - l.length = m.length by omega, f2]
          simp only [bind_mk, gB_mk, cond_t]

theorem fails_eq {s : List UInt8} {e : Int} {at_ : Nat} (h : lexF s = .error (e, at_)) : F17 9000 [.str s, .int .i64 e, .int .i64 at_] = some (.bool true) := by
  unfold F17 S17_1
  simp only [F10_eq, h, lexD, bind_mk, gT_mk, gC_mk, gL_mk, gI_mk, gE_mk, show (((0 : Nat) : Int) == 0) = true from rfl, cond_t, beq_self_eq_true]

theorem errors (s tail : List UInt8) : F8 9000 [.str s, .str tail] = some (.bool true) := by
  unfold F8 S8_1
  simp only [head_N, bind_mk, gB_mk]
  by_cases ha : (s.length : Int) > 8000
  · rw [decide_eq_true ha]; rfl
  by_cases hb : (tail.length : Int) > 8000
  · rw [decide_eq_true hb, decide_eq_false ha]; rfl
  rw [decide_eq_false ha, decide_eq_false hb, cond_f, cond_f]
  have hF : lexF s = lexS 9000 s 0 0 := if_neg (by omega)
  simp only [F10_eq]
  cases hq : lexF s with
  | ok l => simp (config := {implicitDefEqProofs := false}) only [lexD, bind_mk, gT_mk, gC_mk, gL_mk, gI_mk, gE_mk, beq_self_eq_true, cond_t]
  | error e =>
    have he := lexF_err hq
    rw [hF] at hq
    obtain ⟨o, l, e1, e2, e3, e4, e5⟩ := lex_before 9000 s 0 0 e hq (by omega) (by omega)
    obtain ⟨ec, at_⟩ := e
    simp only at e1 e4 he
    rw [Nat.zero_add] at e1
    subst e1
    have hel := end_le (s.drop at_)
    obtain ⟨c, r, hr⟩ : ∃ c r, s.drop at_ = c :: r := by
      cases h : s.drop at_ with
      | nil => exfalso; have := congrArg List.length h; simp at this; omega
      | cons c r => exact ⟨c, r, rfl⟩
    have hs : s = s.take at_ ++ c :: r := by rw [← hr]; exact (List.take_append_drop _ _).symm
    have hlt : (s.take at_).length = at_ := by simp; omega
    have h16 := F16_eq hs (by omega)
    rw [hlt, ← hr] at h16
    have e6 := fun x f' hx hf => e5 x f' hx hf
    simp only [List.length_drop] at hel
    have hmx : (if ((at_ + endL (s.drop at_) : Nat) : Int) > IntKind.i64.wrap ((at_ : Int) + 1) then ((at_ + endL (s.drop at_) : Nat) : Int) else IntKind.i64.wrap ((at_ : Int) + 1)) = ((at_ + max 1 (endL (s.drop at_)) : Nat) : Int) := by
      rw [wr (by omega)]
      split <;> omega
    generalize hE : max 1 (endL (s.drop at_)) = E at *
    have hE2 : at_ + E ≤ s.length := by omega
    have hT : lexF (s.take at_) = .ok l := by
      have := e3 9000 (by omega)
      unfold lexF; rw [if_neg (by simp; omega)]; exact this
    simp (config := {implicitDefEqProofs := false}) only [lexD, bind_mk, gT_mk, gC_mk, gL_mk, gI_mk, gE_mk, beq_eq_false_iff_ne.2 he, cond_f]
    rw [decide_eq_false (show ¬ ((at_ : Int) < 0) by omega), decide_eq_false (show ¬ ((at_ : Int) ≥ (s.length : Int)) by omega), cond_f, cond_f, decide_eq_true (show (0 : Int) ≤ (at_ : Int) by omega), decide_eq_true (show (at_ : Int) ≤ (s.length : Int) by omega)]
    have b1 : (decide ((0 : Int) ≤ ((at_ + E : Nat) : Int)) && decide (((at_ + E : Nat) : Int) ≤ (s.length : Int))) = true := by rw [decide_eq_true (by omega), decide_eq_true (by omega)]; rfl
    have f1 : fitsS ((s.take (at_ + E)).length + ([32] : List UInt8).length) = true := fits_ok (by simp; omega)
    have f2 : fitsS ((s.take (at_ + E) ++ ([32] : List UInt8)).length + tail.length) = true := fits_ok (by simp; omega)
    simp (config := {implicitDefEqProofs := false}) only [Bool.true_and, ass_mk, List.drop_zero, Int.toNat_natCast, hT, h16, bind_mk, gT_mk, gC_mk, gL_mk, gI_mk, gE_mk, hmx, b1, f1, f2, show ((0 : Int) != 0) = false from rfl, cond_f, cond_t]
    have n1 : s.take (at_ + E) ++ ([32] : List UInt8) ++ tail = s.take (at_ + E) ++ (32 :: tail) := by simp
    have fin : ∀ k0 : Bool → Option D, (cond (decide (((s.take (at_ + E) ++ ([32] : List UInt8) ++ tail).length : Int) > (8000 : Int))) (k0 true) ((F17 9000 [(.str (s.take (at_ + E) ++ ([32] : List UInt8) ++ tail)), (.int .i64 ec), (.int .i64 (at_ : Int))]).bind fun x31 => gB x31 fun x32 => k0 x32)) = k0 true := by
      intro k0
      rw [n1]
      by_cases hlen : ((s.take (at_ + E) ++ (32 :: tail)).length : Int) > 8000
      · rw [decide_eq_true hlen, cond_t]
      · rw [decide_eq_false hlen, cond_f]
        have hx : ∀ d x', (32 : UInt8) :: tail = d :: x' → isW d = false ∧ isDg d = false := by
          intro d x' q; injection q with q _; subst q; exact ⟨rfl, rfl⟩
        have q := e5 (32 :: tail) 20000 hx (by simp; omega)
        have hq2 : lexF (s.take (at_ + E) ++ (32 :: tail)) = .error (ec, at_) := by
          unfold lexF; rw [if_neg (by omega), lexS_fuel 9000 20000 _ _ _ (by omega) (by omega)]; exact q
        rw [fails_eq hq2]; rfl
    rw [fin (fun q1 => some (D.bool q1))]
    by_cases h2 : ec = 2
    · have := e4 h2
      rw [beq_iff_eq.2 h2, cond_t, bne_eq_false_iff_eq.2 (show (l.length : Int) = 2000 by omega)]; rfl
    · rw [beq_eq_false_iff_ne.2 h2]; rfl

theorem lexerJoins_true {H : Type} (ds : List (DataW H)) (xs : List D) (h : Ty.Args [.str, .str] ds xs) : exF F6 xs = some (.bool true) := by
  obtain ⟨e1, dr1, x1, xr1, q1, rfl, a1, e2, dr2, x2, xr2, q2, rfl, a2, q5, rfl⟩ := h
  obtain ⟨l, rfl, _⟩ := arg_str a1
  obtain ⟨w, rfl, _⟩ := arg_str a2
  exact exF_of (joins l w)

theorem lexerErrors_true {H : Type} (ds : List (DataW H)) (xs : List D) (h : Ty.Args [.str, .str] ds xs) : exF F8 xs = some (.bool true) := by
  obtain ⟨e1, dr1, x1, xr1, q1, rfl, a1, e2, dr2, x2, xr2, q2, rfl, a2, q5, rfl⟩ := h
  obtain ⟨l, rfl, _⟩ := arg_str a1
  obtain ⟨w, rfl, _⟩ := arg_str a2
  exact exF_of (errors l w)

end Go.Proofs.YtgkjmdbjncnlpaaDoor
