/- The law on gaps, in plain lists of bytes. -/
import Derived.Test.YtgkjmdbjncnlpaaDoorKq
import Derived.Test.YtgkjmdbjncnlpaaDoorEv8
namespace Go.Proofs.YtgkjmdbjncnlpaaDoor
open Go.Ev
set_option linter.unusedVariables false
set_option linter.unusedSimpArgs false
set_option maxRecDepth 100000

theorem lex_err : ∀ (f : Nat) (r : List UInt8) (a cnt : Nat) (e : Int × Nat), lexS f r a cnt = .error e → r.length < f → e.1 ≠ 0 := by
  intro f
  induction f with
  | zero => intro r a cnt e h hf; omega
  | succ f ih =>
    intro r a cnt e h hf
    cases r with
    | nil => simp only [lexS] at h; cases h
    | cons c r =>
      simp only [List.length_cons] at hf
      simp only [lexS] at h
      by_cases h4 : kindB c = 4
      · rw [if_pos h4] at h; exact ih _ _ _ _ h (by omega)
      · rw [if_neg h4] at h
        by_cases h5 : kindB c = 5
        · have hc : isC c = true := by unfold isC; rw [kindB_5 h5]; rfl
          rw [if_pos h5] at h; exact ih _ _ _ _ h (by simp [List.takeWhile_cons, hc]; omega)
        · rw [if_neg h5] at h
          by_cases h2 : cnt = 2000
          · rw [if_pos h2] at h; injection h with h; subst h; simp
          · rw [if_neg h2] at h
            by_cases h0 : (tokAt (c :: r)).e = 0
            · have hp := raw_pos h0
              rw [if_pos h0] at h
              split at h
              · cases h
              · rename_i e' he
                injection h with h; subst h
                exact ih _ _ _ _ he (by simp; omega)
            · rw [if_neg h0] at h; injection h with h; subst h; exact h0

theorem lexF_err {s : List UInt8} {e : Int × Nat} (h : lexF s = .error e) : e.1 ≠ 0 := by
  unfold lexF at h
  split at h
  · injection h with h; subst h; simp
  · exact lex_err _ _ _ _ _ h (by omega)

theorem lexF_ok {s : List UInt8} {l : List Tok} (h : lexF s = .ok l) : s.length ≤ 8000 ∧ lexS 9000 s 0 0 = .ok l ∧ l.length ≤ 2000 ∧ ∀ x ∈ l, x.at_ < s.length := by
  unfold lexF at h
  split at h
  · cases h
  · obtain ⟨h1, h2⟩ := lex_at _ _ _ _ _ h (by omega)
    exact ⟨by omega, h, by omega, fun x hx => by have := h2 x hx; omega⟩

theorem take_toks : ∀ (l : List Tok) (i : Nat), (toksD l).take (i * 4) = toksD (l.take i)
  | [], i => by simp [toksD]
  | x :: l, 0 => by simp [toksD]
  | x :: l, i + 1 => by
    have := take_toks l i
    rw [show (i + 1) * 4 = i * 4 + 1 + 1 + 1 + 1 by omega]
    simpa [toksD, Tok.cells] using this

theorem same_shift (d : Nat) : ∀ (l : List Tok), sameB l (l.map (Tok.shift d)) d = true
  | [] => rfl
  | x :: l => by simp [sameB, Tok.shift, same_shift d l]

theorem toksD_len : ∀ (l : List Tok), (toksD l).length = l.length * 4
  | [] => rfl
  | x :: l => by
    have := toksD_len l
    simp only [toksD, List.flatMap_cons, List.length_append, Tok.cells, List.length_cons, List.length_nil] at *
    omega

theorem gaps_2 {s g : List UInt8} {l : List Tok} (h : lexF s = .ok l) (hg : gapT g) (hgl : g.length ≤ 100) (k at_ : Nat) (hk : k ≤ l.length) (hat : at_ = (match l[k]? with | some x => x.at_ | none => s.length)) :
    S5_2 9000 s true l.length (toksD l) false g (k : Int) (at_ : Int) (fun q1 => some (D.bool q1)) = some (.bool true) := by
  obtain ⟨hs, hl, hl2, hb⟩ := lexF_ok h
  have hle : at_ ≤ s.length := by
    cases hx : l[k]? with
    | none => rw [hx] at hat; simp only at hat; omega
    | some x => rw [hx] at hat; have := hb x (List.mem_of_getElem? hx); simp only at hat; omega
  unfold S5_2
  have a1 : (decide ((0 : Int) ≤ (at_ : Int)) && decide ((at_ : Int) ≤ (s.length : Int))) = true := by rw [decide_eq_true (by omega), decide_eq_true (by omega)]; rfl
  have t1 : s.take at_ ++ g ++ s.drop at_ = s.take at_ ++ (g ++ s.drop at_) := List.append_assoc _ _ _
  have t2 : List.take (s.length - at_) (s.drop at_) = s.drop at_ := List.take_of_length_le (by simp)
  have n1 : (s.take at_ ++ (g ++ s.drop at_)).length = s.length + g.length := by simp; omega
  have a2 : fitsS ((s.take at_).length + g.length) = true := decide_eq_true (by simp; omega)
  have a3 : fitsS ((s.take at_ ++ g).length + (s.drop at_).length) = true := decide_eq_true (by simp; omega)
  rw [decide_eq_false (by omega), cond_f, decide_eq_false (by omega), cond_f]
  simp only [a1, ass_mk, Int.toNat_natCast, List.drop_zero, t2, a2, a3, t1, F10_eq, bind_mk]
  rw [wrN (by omega)]
  by_cases hbig : s.length + g.length > 8000
  · rw [show lexF (s.take at_ ++ (g ++ s.drop at_)) = .error (2, 0) from if_pos (by omega)]
    rw [decide_eq_true (show (((s.length + g.length : Nat) : Int) > 8000) by omega)]
    rfl
  · have hq : lexF (s.take at_ ++ (g ++ s.drop at_)) = .ok (l.take k ++ (l.drop k).map (Tok.shift g.length)) := by
      unfold lexF
      rw [if_neg (by omega)]
      refine lex_gap hg s.length s 0 0 l k 9000 9000 at_ (Nat.le_refl _) (by omega) hl hk (by omega) ?_
      rw [hat]; cases l[k]? <;> rfl
    rw [hq]
    have ml : (l.take k ++ (l.drop k).map (Tok.shift g.length)).length = l.length := by simp; omega
    have kt : (l.take k).length = k := by simp; omega
    have kd : (l.drop k).length = l.length - k := by simp
    have kd2 : ((l.drop k).map (Tok.shift g.length)).length = l.length - k := by simp
    have m1 : (l.take k ++ (l.drop k).map (Tok.shift g.length)).take k = l.take k := by
      have := @List.take_left _ (l.take k) ((l.drop k).map (Tok.shift g.length)); rwa [kt] at this
    have m2 : (l.take k ++ (l.drop k).map (Tok.shift g.length)).drop k = (l.drop k).map (Tok.shift g.length) := by
      have := @List.drop_left _ (l.take k) ((l.drop k).map (Tok.shift g.length)); rwa [kt] at this
    have full : ∀ (q : List Tok), q.length = l.length - k → List.take ((l.length - k) * 4) (toksD q) = toksD q := fun q hq => List.take_of_length_le (by rw [toksD_len, hq]; exact Nat.le_refl _)
    have a4 : (decide ((0 : Int) ≤ (k : Int)) && decide ((k : Int) ≤ (l.length : Int))) = true := by rw [decide_eq_true (by omega), decide_eq_true (by omega)]; rfl
    have f1 := fun e1 e2 => F12_eq (l.take k) (l.take k) e1 e2 0 (by omega) (by omega) (fun x hx => by have := hb x (List.mem_of_mem_take hx); omega)
    have f2 := fun e1 e2 => F12_eq (l.drop k) ((l.drop k).map (Tok.shift g.length)) e1 e2 g.length (by omega) (by omega) (fun x hx => by have := hb x (List.mem_of_mem_drop hx); omega)
    rw [same_refl, kt] at f1
    rw [same_shift, kd2, kd] at f2
    rw [decide_eq_false (show ¬ (((s.length + g.length : Nat) : Int) > 8000) by omega)]
    simp only [lexD, ml, gT_mk, gC_mk, gL_mk, gI_mk, gE_mk, cond_f, cond_t, beq_self_eq_true, a4, ass_mk, Int.toNat_natCast, take_toks, drop_toks, m1, m2, full _ kd, full _ kd2]
    rw [show ((0 : Nat) : Int) = 0 from rfl] at f1
    rw [f1]
    simp only [bind_mk, gB_mk, cond_t]
    rw [f2]
    simp only [bind_mk, gB_mk, cond_t]

theorem gapT1 : gapT [32] := ⟨fun fl => by cases fl <;> rfl, fun r => (show _ = gapL false r + 1 from rfl).trans (Nat.add_comm _ _), 32, [], rfl, rfl, rfl⟩
theorem gapT2 : gapT [9, 9] := ⟨fun fl => by cases fl <;> rfl, fun r => (show _ = gapL false r + 1 + 1 from rfl).trans (by simp; omega), 9, [9], rfl, rfl, rfl⟩
theorem gapT3 : gapT [10] := ⟨fun fl => by cases fl <;> rfl, fun r => (show _ = gapL false r + 1 from rfl).trans (Nat.add_comm _ _), 10, [], rfl, rfl, rfl⟩
theorem gapT4 : gapT [32, 35, 32, 97, 32, 55, 59, 10] := ⟨fun fl => by cases fl <;> rfl, fun r => (show _ = gapL false r + 1 + 1 + 1 + 1 + 1 + 1 + 1 + 1 from rfl).trans (by simp; omega), 32, _, rfl, rfl, rfl⟩
theorem gapT5 : gapT [35, 10, 10] := ⟨fun fl => by cases fl <;> rfl, fun r => (show _ = gapL false r + 1 + 1 + 1 from rfl).trans (by simp; omega), 35, _, rfl, rfl, rfl⟩

theorem gaps (s : List UInt8) (w d : Int) (hw : 0 ≤ w) (hw' : w ≤ 65535) (hd : 0 ≤ d) (hd' : d ≤ 255) : F5 9000 [.str s, .int .u16 w, .int .u8 d] = some (.bool true) := by
  unfold F5 S5_1
  simp only [head_N, bind_mk, gB_mk]
  by_cases hs : (s.length : Int) > 8000
  · rw [decide_eq_true hs]; rfl
  · rw [decide_eq_false hs, cond_f, F10_eq]
    cases hq : lexF s with
    | error e =>
      simp only [lexD, bind_mk, gT_mk, gC_mk, gL_mk, gI_mk, gE_mk]
      rw [bne_iff_ne.2 (lexF_err hq)]; rfl
    | ok l =>
      obtain ⟨_, _, hl2, hb⟩ := lexF_ok hq
      simp only [lexD, bind_mk, gT_mk, gC_mk, gL_mk, gI_mk, gE_mk, show ((0 : Int) != 0) = false from rfl, cond_f]
      have w1 : IntKind.i64.wrap w = w := wrap64_in (by omega) (by omega)
      have w2 : IntKind.i64.wrap d = d := wrap64_in (by omega) (by omega)
      have w3 : IntKind.i64.wrap ((l.length : Int) + 1) = ((l.length + 1 : Nat) : Int) := wr (by omega)
      have hj : ∃ j : Nat, j < 5 ∧ Int.tmod d 5 = (j : Int) := ⟨(d % 5).toNat, by omega, by rw [Int.tmod_eq_emod_of_nonneg hd]; omega⟩
      have hk : ∃ k : Nat, k ≤ l.length ∧ Int.tmod w ((l.length + 1 : Nat) : Int) = (k : Int) := by
        rw [Int.tmod_eq_emod_of_nonneg hw]
        have q1 := Int.emod_nonneg w (show ((l.length + 1 : Nat) : Int) ≠ 0 by omega)
        have q2 := Int.emod_lt_of_pos w (show (0 : Int) < ((l.length + 1 : Nat) : Int) by omega)
        exact ⟨(w % ((l.length + 1 : Nat) : Int)).toNat, by omega, by omega⟩
      obtain ⟨j, hj, ej⟩ := hj
      obtain ⟨k, hk, ek⟩ := hk
      rw [w1, w2, w3, ej, ek]
      have a1 : (decide ((0 : Int) ≤ (j : Int)) && decide ((j : Int) < 5)) = true := by rw [decide_eq_true (by omega), decide_eq_true (by omega)]; rfl
      have a2 : (!(((l.length + 1 : Nat) : Int) == 0)) = true := by rw [beq_eq_false_iff_ne.2 (by omega)]; rfl
      have fin : ∀ g : List UInt8, gapT g → g.length ≤ 100 → cond (decide ((k : Int) < (l.length : Int))) (ass (decide ((0 : Int) ≤ (k : Int)) && decide ((k : Int) < (l.length : Int))) (gC (List.drop 3 (List.drop (Int.toNat (k : Int) * 4) (toksD l))) fun x19 x20 => gI .i64 x19 fun x21 => S5_2 9000 s true l.length (toksD l) false g (k : Int) x21 (fun x22 => some (D.bool x22)))) (S5_2 9000 s true l.length (toksD l) false g (k : Int) (List.length s : Int) (fun x23 => some (D.bool x23))) = some (.bool true) := by
        intro g hg hgl
        by_cases hlt : k < l.length
        · rw [decide_eq_true (by omega), decide_eq_true (by omega), cond_t]
          have e1 : l.drop k = l[k] :: l.drop (k + 1) := List.drop_eq_getElem_cons hlt
          rw [Int.toNat_natCast, drop_toks, e1]
          show S5_2 9000 s true l.length (toksD l) false g (k : Int) (l[k].at_ : Int) (fun q1 => some (D.bool q1)) = some (.bool true)
          exact gaps_2 hq hg hgl k l[k].at_ hk (by rw [List.getElem?_eq_getElem hlt])
        · rw [decide_eq_false (by omega), cond_f]
          exact gaps_2 hq hg hgl k s.length hk (by rw [List.getElem?_eq_none (by omega)])
      rw [a1, ass_mk]
      match j, hj with
      | 0, _ => rw [a2]; exact fin _ gapT1 (by simp)
      | 1, _ => rw [a2]; exact fin _ gapT2 (by simp)
      | 2, _ => rw [a2]; exact fin _ gapT3 (by simp)
      | 3, _ => rw [a2]; exact fin _ gapT4 (by simp)
      | 4, _ => rw [a2]; exact fin _ gapT5 (by simp)

theorem lexerGaps_true {H : Type} (ds : List (DataW H)) (xs : List D) (h : Ty.Args [.str, .int .u16, .int .u8] ds xs) : exF F5 xs = some (.bool true) := by
  obtain ⟨e1, dr1, x1, xr1, q1, rfl, a1, e2, dr2, x2, xr2, q2, rfl, a2, e3, dr3, x3, xr3, q3, rfl, a3, q5, rfl⟩ := h
  obtain ⟨l, rfl, _⟩ := arg_str a1
  obtain ⟨w, rfl, hw⟩ := arg_int a2
  obtain ⟨d, rfl, hd⟩ := arg_int a3
  have := u16_wf hw
  have := u8_wf hd
  exact exF_of (gaps l w d (by omega) (by omega) (by omega) (by omega))

end Go.Proofs.YtgkjmdbjncnlpaaDoor
