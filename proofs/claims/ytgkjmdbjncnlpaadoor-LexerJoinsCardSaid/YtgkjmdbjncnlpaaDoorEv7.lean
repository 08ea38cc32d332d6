/- Two texts joined by a line feed; the text before an error; in plain lists of bytes. -/
import Derived.Test.YtgkjmdbjncnlpaaDoorEv6
namespace Go.Ev
set_option linter.unusedVariables false
set_option linter.unusedSimpArgs false

theorem takeWhile_join (p : UInt8 → Bool) (r x : List UInt8) (hx : ∀ c x', x = c :: x' → p c = false) : (r ++ x).takeWhile p = r.takeWhile p := by
  have := takeWhile_app p r r.length x (takeWhile_le p r) hx
  rwa [List.take_length] at this

theorem takeWhile_app2 (p : UInt8 → Bool) : ∀ (r : List UInt8) (m : Nat) (x : List UInt8), (r.takeWhile p).length < m → m ≤ r.length → (r.take m ++ x).takeWhile p = r.takeWhile p
  | [], m, x, h, h2 => by simp at h2; omega
  | c :: r, 0, x, h, h2 => by omega
  | c :: r, m + 1, x, h, h2 => by
    cases hp : p c with
    | false => simp [List.takeWhile_cons, hp]
    | true =>
      have ih := takeWhile_app2 p r m x (by simpa [List.takeWhile_cons, hp] using h) (by simpa using h2)
      simp [List.takeWhile_cons, hp, ih]

theorem drop_app_le {α : Type} {r : List α} {k : Nat} (h : k ≤ r.length) (x : List α) : (r ++ x).drop k = r.drop k ++ x := by
  rw [List.drop_append_of_le_length h]

theorem tok_join (c : UInt8) (r x : List UInt8) (hx : ∀ d x', x = d :: x' → isW d = false ∧ isDg d = false) : tokAt (c :: (r ++ x)) = tokAt (c :: r) := by
  have := (tok_app (c := c) (r := r) (m := (c :: r).length) (x := x) (end_le _) (by simp) hx).1
  rwa [List.take_length] at this

theorem lex_join (b : List UInt8) : ∀ (f : Nat) (r : List UInt8) (a cnt : Nat) (l : List Tok) (f' : Nat), lexS f r a cnt = .ok l → r.length < f → r.length + 1 + b.length < f' →
    lexS f' (r ++ 10 :: b) a cnt = match lexS f' b (a + (r.length + 1)) (cnt + l.length) with
      | .ok m => .ok (l ++ m)
      | .error e => .error e := by
  have hx : ∀ d x', (10 : UInt8) :: b = d :: x' → isW d = false ∧ isDg d = false := by
    intro d x' h; injection h with h _; subst h; exact ⟨rfl, rfl⟩
  intro f
  induction f with
  | zero => intro r a cnt l f' h hf; omega
  | succ f ih =>
    intro r a cnt l f' h hf hf'
    obtain ⟨f', rfl⟩ : ∃ j, f' = j + 1 := ⟨f' - 1, by omega⟩
    cases r with
    | nil =>
      simp only [lexS] at h; injection h with h; subst h
      have e : lexS (f' + 1) ([] ++ 10 :: b) a cnt = lexS f' b (a + 1) cnt := rfl
      rw [e, lexS_fuel f' (f' + 1) b (a + 1) cnt (by simp at hf'; omega) (by simp at hf'; omega)]
      simp only [List.length_nil, Nat.zero_add, Nat.add_zero]
      cases lexS (f' + 1) b (a + 1) cnt <;> rfl
    | cons c r =>
      simp only [List.length_cons] at hf hf'
      by_cases h4 : kindB c = 4
      · have h' : lexS f r (a + 1) cnt = .ok l := by simp only [lexS] at h; rwa [if_pos h4] at h
        have e : lexS (f' + 1) ((c :: r) ++ 10 :: b) a cnt = lexS f' (r ++ 10 :: b) (a + 1) cnt := by
          rw [List.cons_append]; simp only [lexS]; rw [if_pos h4]
        rw [e, ih r (a + 1) cnt l f' h' (by omega) (by omega), lexS_fuel f' (f' + 1) b _ _ (by omega) (by omega)]
        simp only [List.length_cons]
        rw [show a + 1 + (r.length + 1) = a + (r.length + 1 + 1) by omega]
      · by_cases h5 : kindB c = 5
        · have h10 : ∀ d x', (10 : UInt8) :: b = d :: x' → isC d = false := by intro d x' q; injection q with q _; subst q; rfl
          have ht := takeWhile_join isC (c :: r) (10 :: b) h10
          have hk := takeWhile_le isC (c :: r)
          have hc : isC c = true := by unfold isC; rw [kindB_5 h5]; rfl
          have hp : 1 ≤ ((c :: r).takeWhile isC).length := by simp [List.takeWhile_cons, hc]
          have h' : lexS f ((c :: r).drop ((c :: r).takeWhile isC).length) (a + ((c :: r).takeWhile isC).length) cnt = .ok l := by simp only [lexS] at h; rwa [if_neg h4, if_pos h5] at h
          have e : lexS (f' + 1) ((c :: r) ++ 10 :: b) a cnt = lexS f' (((c :: r) ++ 10 :: b).drop (((c :: r) ++ 10 :: b).takeWhile isC).length) (a + (((c :: r) ++ 10 :: b).takeWhile isC).length) cnt := by
            rw [List.cons_append]; simp only [lexS]; rw [if_neg h4, if_pos h5]
          rw [e, ht, drop_app_le hk]
          generalize ((c :: r).takeWhile isC).length = k at *
          simp only [List.length_cons] at hk
          rw [ih _ _ cnt l f' h' (by simp; omega) (by simp; omega), lexS_fuel f' (f' + 1) b _ _ (by omega) (by omega)]
          simp only [List.length_cons, List.length_drop]
          rw [show a + k + (r.length + 1 - k + 1) = a + (r.length + 1 + 1) by omega]
        · obtain ⟨h2, h0, l', rfl, h'⟩ := lexS_ok h4 h5 h
          have hp := raw_pos h0
          have hk := raw_le (c :: r)
          have e := @lexS_tok f' c (r ++ 10 :: b) a cnt h4 h5 h2 (by rw [tok_join c r _ hx]; exact h0)
          rw [tok_join c r _ hx, ← List.cons_append, drop_app_le hk] at e
          rw [e]
          generalize (tokAt (c :: r)).raw.length = k at *
          simp only [List.length_cons] at hk
          rw [ih _ _ _ l' f' h' (by simp; omega) (by simp; omega), lexS_fuel f' (f' + 1) b _ _ (by omega) (by omega)]
          simp only [List.length_cons, List.length_drop]
          rw [show a + k + (r.length + 1 - k + 1) = a + (r.length + 1 + 1) by omega, show cnt + 1 + l'.length = cnt + (l'.length + 1) by omega]
          cases lexS (f' + 1) b (a + (r.length + 1 + 1)) (cnt + (l'.length + 1)) <;> rfl

theorem lex_cnt (d : Nat) : ∀ (f : Nat) (r : List UInt8) (a cnt : Nat) (l : List Tok), lexS f r a cnt = .ok l → cnt + d ≤ 2000 →
    (cnt + d + l.length ≤ 2000 → lexS f r a (cnt + d) = .ok l) ∧ (2000 < cnt + d + l.length → ∃ i, a ≤ i ∧ lexS f r a (cnt + d) = .error (2, i)) := by
  intro f
  induction f with
  | zero => intro r a cnt l h; cases h
  | succ f ih =>
    intro r a cnt l h hc
    cases r with
    | nil => simp only [lexS] at h; injection h with h; subst h; exact ⟨fun _ => rfl, fun h => by simp at h; omega⟩
    | cons c r =>
      by_cases h4 : kindB c = 4
      · simp only [lexS] at h ⊢; rw [if_pos h4] at h; rw [if_pos h4]
        obtain ⟨e1, e2⟩ := ih _ _ _ _ h hc
        exact ⟨e1, fun q => by obtain ⟨i, hi, e⟩ := e2 q; exact ⟨i, by omega, e⟩⟩
      · by_cases h5 : kindB c = 5
        · simp only [lexS] at h ⊢; rw [if_neg h4, if_pos h5] at h; rw [if_neg h4, if_pos h5]
          obtain ⟨e1, e2⟩ := ih _ _ _ _ h hc
          exact ⟨e1, fun q => by obtain ⟨i, hi, e⟩ := e2 q; exact ⟨i, by omega, e⟩⟩
        · obtain ⟨h2, h0, l', rfl, h'⟩ := lexS_ok h4 h5 h
          by_cases hq : cnt + d = 2000
          · refine ⟨fun q => by simp only [List.length_cons] at q; omega, fun _ => ⟨a, Nat.le_refl _, ?_⟩⟩
            simp only [lexS]; rw [if_neg h4, if_neg h5, if_pos hq]
          · obtain ⟨e1, e2⟩ := ih _ _ _ _ h' (by omega)
            rw [show cnt + 1 + d = cnt + d + 1 by omega] at e1 e2
            rw [lexS_tok h4 h5 hq h0]
            simp only [List.length_cons]
            refine ⟨fun q => by rw [e1 (by omega)], fun q => ?_⟩
            obtain ⟨i, hi, e⟩ := e2 (by omega)
            exact ⟨i, by omega, by rw [e]⟩

/-- The tokens of two texts that are joined. -/
theorem lex_joined {a b : List UInt8} {l m : List Tok} (ha : lexS 9000 a 0 0 = .ok l) (hb : lexS 9000 b 0 0 = .ok m) (hl : l.length ≤ 2000) (hs : a.length + b.length + 1 ≤ 8000) :
    (l.length + m.length ≤ 2000 → lexS 9000 (a ++ 10 :: b) 0 0 = .ok (l ++ m.map (Tok.shift (a.length + 1)))) ∧
    (2000 < l.length + m.length → ∃ i, a.length < i ∧ lexS 9000 (a ++ 10 :: b) 0 0 = .error (2, i)) := by
  have e := lex_join b 9000 a 0 0 l 9000 ha (by omega) (by omega)
  rw [lexS_shift (a.length + 1) 9000 b 0 (0 + l.length) (by omega)] at e
  obtain ⟨c1, c2⟩ := lex_cnt l.length 9000 b 0 0 m hb (by omega)
  constructor
  · intro h; rw [e, c1 (by omega)]; rfl
  · intro h
    obtain ⟨i, _, c⟩ := c2 (by omega)
    exact ⟨i + (a.length + 1), by omega, by rw [e, c]; rfl⟩

theorem tok_e2 : ∀ r : List UInt8, (tokAt r).e ≠ 2
  | [] => by decide
  | c :: r => by
    have hn : ∀ t, (numT t).2.2 ≠ 2 := by
      intro t
      unfold numT
      split
      · simp
      · split
        · split <;> simp
        · simp
    rw [tokAt_cons]
    split
    · split <;> simp
    · split
      · exact hn _
      · split <;> simp

/-- What stands before an error, and that what stands behind its token does not matter. -/
theorem lex_before : ∀ (f : Nat) (r : List UInt8) (a cnt : Nat) (e : Int × Nat), lexS f r a cnt = .error e → r.length < f → cnt ≤ 2000 →
    ∃ o l, e.2 = a + o ∧ o < r.length ∧ (∀ f', r.length < f' → lexS f' (r.take o) a cnt = .ok l) ∧ (e.1 = 2 → cnt + l.length = 2000) ∧
      ∀ (x : List UInt8) (f' : Nat), (∀ d x', x = d :: x' → isW d = false ∧ isDg d = false) → r.length + x.length < f' → lexS f' (r.take (o + max 1 (endL (r.drop o))) ++ x) a cnt = .error e := by
  intro f
  induction f with
  | zero => intro r a cnt e h hf; omega
  | succ f ih =>
    intro r a cnt e h hf hc
    cases r with
    | nil => simp only [lexS] at h; cases h
    | cons c r =>
      simp only [List.length_cons] at hf
      by_cases h4 : kindB c = 4
      · simp only [lexS] at h; rw [if_pos h4] at h
        obtain ⟨o, l, e1, e2, e3, e4, e5⟩ := ih _ _ _ _ h (by omega) hc
        refine ⟨o + 1, l, by omega, by simpa using e2, ?_, e4, ?_⟩
        · intro f' hf'
          obtain ⟨f', rfl⟩ : ∃ j, f' = j + 1 := ⟨f' - 1, by omega⟩
          rw [List.take_succ_cons]; simp only [lexS]; rw [if_pos h4]
          exact e3 f' (by simpa using hf')
        · intro x f' hx hf'
          obtain ⟨f', rfl⟩ : ∃ j, f' = j + 1 := ⟨f' - 1, by omega⟩
          rw [List.drop_succ_cons, show o + 1 + max 1 (endL (r.drop o)) = o + max 1 (endL (r.drop o)) + 1 by omega, List.take_succ_cons, List.cons_append]
          simp only [lexS]; rw [if_pos h4]
          exact e5 x f' hx (by simp at hf'; omega)
      · by_cases h5 : kindB c = 5
        · simp only [lexS] at h; rw [if_neg h4, if_pos h5] at h
          have hc' : isC c = true := by unfold isC; rw [kindB_5 h5]; rfl
          have hp : 1 ≤ ((c :: r).takeWhile isC).length := by simp [List.takeWhile_cons, hc']
          have hk := takeWhile_le isC (c :: r)
          have t1 := takeWhile_app isC (c :: r)
          have t2 := takeWhile_app2 isC (c :: r)
          obtain ⟨o, l, e1, e2, e3, e4, e5⟩ := ih _ _ _ _ h (by simp; simp at hk; omega) hc
          generalize hkk : (c :: r).takeWhile isC = w at *
          have hnn : ∀ d x', ([] : List UInt8) = d :: x' → isC d = false := by intro d x' q; cases q
          have hlen : ((c :: r).drop w.length).length = r.length + 1 - w.length := by simp
          rw [hlen] at e2 e3 e5
          simp only [List.length_cons] at hk
          obtain ⟨j, hj⟩ : ∃ j, w.length = j + 1 := ⟨w.length - 1, by omega⟩
          refine ⟨w.length + o, l, by omega, by simp; omega, ?_, e4, ?_⟩
          · intro f' hf'
            obtain ⟨f', rfl⟩ : ∃ j, f' = j + 1 := ⟨f' - 1, by omega⟩
            have q := t1 (w.length + o) [] (by omega) hnn
            rw [List.append_nil] at q
            have e : lexS (f' + 1) ((c :: r).take (w.length + o)) a cnt = lexS f' (((c :: r).take (w.length + o)).drop (((c :: r).take (w.length + o)).takeWhile isC).length) (a + (((c :: r).take (w.length + o)).takeWhile isC).length) cnt := by
              rw [show w.length + o = (j + o) + 1 by omega, List.take_succ_cons]; simp only [lexS]; rw [if_neg h4, if_pos h5]
            rw [e, q, List.drop_take, show w.length + o - w.length = o by omega]
            exact e3 f' (by simp at hf'; omega)
          · intro x f' hx hf'
            obtain ⟨f', rfl⟩ : ∃ j, f' = j + 1 := ⟨f' - 1, by omega⟩
            have hd : (c :: r).drop (w.length + o) = ((c :: r).drop w.length).drop o := by rw [List.drop_drop]
            have hel := end_le (((c :: r).drop w.length).drop o)
            simp only [List.length_drop, List.length_cons] at hel
            have e5' := e5 x f' hx (by simp at hf'; omega)
            rw [hd]
            generalize hE : max 1 (endL (((c :: r).drop w.length).drop o)) = E at *
            have hE1 : 1 ≤ E := by omega
            have hE2 : E ≤ r.length + 1 - w.length - o := by omega
            have q := t2 (w.length + o + E) x (by omega) (by simp; omega)
            have e : lexS (f' + 1) ((c :: r).take (w.length + o + E) ++ x) a cnt = lexS f' (((c :: r).take (w.length + o + E) ++ x).drop (((c :: r).take (w.length + o + E) ++ x).takeWhile isC).length) (a + (((c :: r).take (w.length + o + E) ++ x).takeWhile isC).length) cnt := by
              rw [show w.length + o + E = (j + o + E) + 1 by omega, List.take_succ_cons, List.cons_append]; simp only [lexS]; rw [if_neg h4, if_pos h5]
            rw [e, q, drop_app_le (by simp; omega), List.drop_take, show w.length + o + E - w.length = o + E by omega]
            exact e5'
        · by_cases h2 : cnt = 2000
          · have he : e = (2, a) := by simp only [lexS] at h; rw [if_neg h4, if_neg h5, if_pos h2] at h; injection h with h; exact h.symm
            subst he
            refine ⟨0, [], by simp, by simp, fun f' hf' => ?_, fun _ => by simpa using h2, fun x f' hx hf' => ?_⟩
            · obtain ⟨f', rfl⟩ : ∃ j, f' = j + 1 := ⟨f' - 1, by omega⟩
              rfl
            · obtain ⟨f', rfl⟩ : ∃ j, f' = j + 1 := ⟨f' - 1, by omega⟩
              obtain ⟨j, hj⟩ : ∃ j, 0 + max 1 (endL ((c :: r).drop 0)) = j + 1 := ⟨0 + max 1 (endL ((c :: r).drop 0)) - 1, by omega⟩
              rw [hj, List.take_succ_cons, List.cons_append]; simp only [lexS]; rw [if_neg h4, if_neg h5, if_pos h2]
          · by_cases h0 : (tokAt (c :: r)).e = 0
            · have hp := raw_pos h0
              have hk := raw_le (c :: r)
              have hL := end_raw h0
              rw [lexS_tok h4 h5 h2 h0] at h
              have h' : lexS f ((c :: r).drop (tokAt (c :: r)).raw.length) (a + (tokAt (c :: r)).raw.length) (cnt + 1) = .error e := by
                split at h
                · cases h
                · injection h with h; subst h; assumption
              obtain ⟨o, l, e1, e2, e3, e4, e5⟩ := ih _ _ _ _ h' (by simp; simp at hk; omega) (by omega)
              have ta := fun m x => @tok_app c r m x
              have st := fun f' r' => @lexS_tok f' c r' a cnt h4 h5 h2
              generalize hT : tokAt (c :: r) = T at *
              generalize hkk : T.raw.length = k at *
              rw [← hL] at ta
              have hlen : ((c :: r).drop k).length = r.length + 1 - k := by simp
              rw [hlen] at e2 e3 e5
              simp only [List.length_cons] at hk
              have hnn : ∀ d x', ([] : List UInt8) = d :: x' → isW d = false ∧ isDg d = false := by intro d x' q; cases q
              refine ⟨k + o, ⟨T.k, T.t, T.n, a⟩ :: l, by omega, by simp; omega, ?_, fun q => by have := e4 q; simp only [List.length_cons]; omega, ?_⟩
              · intro f' hf'
                obtain ⟨f', rfl⟩ : ∃ j, f' = j + 1 := ⟨f' - 1, by omega⟩
                have q := (ta (k + o) [] (by omega) (by omega) hnn).1
                rw [List.append_nil, show k + o = (k + o - 1) + 1 by omega, List.take_succ_cons] at q
                have e := st f' (r.take (k + o - 1)) (by rw [q]; exact h0)
                rw [q, ← List.take_succ_cons, show (k + o - 1) + 1 = k + o by omega, hkk, List.drop_take, show k + o - k = o by omega, e3 f' (by simp at hf'; omega)] at e
                exact e
              · intro x f' hx hf'
                obtain ⟨f', rfl⟩ : ∃ j, f' = j + 1 := ⟨f' - 1, by omega⟩
                have hd : (c :: r).drop (k + o) = ((c :: r).drop k).drop o := by rw [List.drop_drop]
                have hel := end_le (((c :: r).drop k).drop o)
                simp only [List.length_drop, List.length_cons] at hel
                have e5' := e5 x f' hx (by simp at hf'; omega)
                rw [hd]
                generalize hE : max 1 (endL (((c :: r).drop k).drop o)) = E at *
                have hE1 : 1 ≤ E := by omega
                have hE2 : E ≤ r.length + 1 - k - o := by omega
                have q := (ta (k + o + E) x (by omega) (by omega) hx).1
                rw [show k + o + E = (k + o + E - 1) + 1 by omega, List.take_succ_cons, List.cons_append] at q
                have e := st f' (r.take (k + o + E - 1) ++ x) (by rw [q]; exact h0)
                rw [q, ← List.cons_append, ← List.take_succ_cons, show (k + o + E - 1) + 1 = k + o + E by omega, hkk, drop_app_le (by simp; omega), List.drop_take, show k + o + E - k = o + E by omega, e5'] at e
                exact e
            · have he : e = ((tokAt (c :: r)).e, a) := by simp only [lexS] at h; rw [if_neg h4, if_neg h5, if_neg h2, if_neg h0] at h; injection h with h; exact h.symm
              refine ⟨0, [], by rw [he]; rfl, by simp, fun f' hf' => ?_, fun q => ?_, fun x f' hx hf' => ?_⟩
              · obtain ⟨f', rfl⟩ : ∃ j, f' = j + 1 := ⟨f' - 1, by omega⟩
                rfl
              · rw [he] at q; exact absurd q (tok_e2 _)
              · obtain ⟨f', rfl⟩ : ∃ j, f' = j + 1 := ⟨f' - 1, by omega⟩
                rw [Nat.zero_add, List.drop_zero]
                have q := (@tok_app c r (max 1 (endL (c :: r))) x (by omega) (by omega) hx).1
                obtain ⟨j, hj⟩ : ∃ j, max 1 (endL (c :: r)) = j + 1 := ⟨max 1 (endL (c :: r)) - 1, by omega⟩
                rw [hj, List.take_succ_cons, List.cons_append] at q ⊢
                simp only [lexS]; rw [if_neg h4, if_neg h5, if_neg h2, q, if_neg h0, he]

end Go.Ev
