/- A gap that is put before a token changes the offsets behind it alone. -/
import Derived.Test.YtgkjmdbjncnlpaaDoorEv5
namespace Go.Ev
set_option linter.unusedVariables false
set_option linter.unusedSimpArgs false

theorem lexS_tok {f : Nat} {c : UInt8} {r : List UInt8} {a cnt : Nat} (h4 : kindB c ≠ 4) (h5 : kindB c ≠ 5) (h2 : cnt ≠ 2000) (h0 : (tokAt (c :: r)).e = 0) :
    lexS (f + 1) (c :: r) a cnt = match lexS f ((c :: r).drop (tokAt (c :: r)).raw.length) (a + (tokAt (c :: r)).raw.length) (cnt + 1) with
      | .ok l => .ok (⟨(tokAt (c :: r)).k, (tokAt (c :: r)).t, (tokAt (c :: r)).n, a⟩ :: l)
      | .error e => .error e := by
  simp only [lexS]
  rw [if_neg h4, if_neg h5, if_neg h2, if_pos h0]
  cases lexS f ((c :: r).drop (tokAt (c :: r)).raw.length) (a + (tokAt (c :: r)).raw.length) (cnt + 1) <;> rfl

theorem lexS_ok {f : Nat} {c : UInt8} {r : List UInt8} {a cnt : Nat} {l : List Tok} (h4 : kindB c ≠ 4) (h5 : kindB c ≠ 5) (h : lexS (f + 1) (c :: r) a cnt = .ok l) :
    cnt ≠ 2000 ∧ (tokAt (c :: r)).e = 0 ∧ ∃ l', l = ⟨(tokAt (c :: r)).k, (tokAt (c :: r)).t, (tokAt (c :: r)).n, a⟩ :: l' ∧ lexS f ((c :: r).drop (tokAt (c :: r)).raw.length) (a + (tokAt (c :: r)).raw.length) (cnt + 1) = .ok l' := by
  simp only [lexS] at h
  rw [if_neg h4, if_neg h5] at h
  by_cases h2 : cnt = 2000
  · rw [if_pos h2] at h; cases h
  · rw [if_neg h2] at h
    by_cases h0 : (tokAt (c :: r)).e = 0
    · rw [if_pos h0] at h
      refine ⟨h2, h0, ?_⟩
      cases hq : lexS f ((c :: r).drop (tokAt (c :: r)).raw.length) (a + (tokAt (c :: r)).raw.length) (cnt + 1) with
      | ok l' => rw [hq] at h; injection h with h; exact ⟨l', h.symm, rfl⟩
      | error e => rw [hq] at h; cases h
    · rw [if_neg h0] at h; cases h

theorem lex_from : ∀ (f : Nat) (r : List UInt8) (a cnt : Nat) (l : List Tok), lexS f r a cnt = .ok l → ∀ x ∈ l, a ≤ x.at_ := by
  intro f
  induction f with
  | zero => intro r a cnt l h; cases h
  | succ f ih =>
    intro r a cnt l h
    cases r with
    | nil => simp only [lexS] at h; injection h with h; subst h; simp
    | cons c r =>
      by_cases h4 : kindB c = 4
      · simp only [lexS] at h; rw [if_pos h4] at h
        intro x hx; have := ih _ _ _ _ h x hx; omega
      · by_cases h5 : kindB c = 5
        · simp only [lexS] at h; rw [if_neg h4, if_pos h5] at h
          intro x hx; have := ih _ _ _ _ h x hx; omega
        · obtain ⟨_, _, l', rfl, h'⟩ := lexS_ok h4 h5 h
          intro x hx
          rcases List.mem_cons.1 hx with rfl | hx
          · exact Nat.le_refl _
          · have := ih _ _ _ _ h' x hx; omega

theorem lex_gap {g : List UInt8} (hg : gapT g) : ∀ (n : Nat) (r : List UInt8) (a cnt : Nat) (l : List Tok) (k f f' o : Nat), r.length ≤ n → r.length < f → lexS f r a cnt = .ok l → k ≤ l.length → r.length + g.length < f' →
    o = (match l[k]? with | some x => x.at_ - a | none => r.length) →
    lexS f' (r.take o ++ (g ++ r.drop o)) a cnt = .ok (l.take k ++ (l.drop k).map (Tok.shift g.length)) := by
  obtain ⟨g1, g2, gc, gr, ge, gw, gd⟩ := hg
  intro n
  induction n with
  | zero =>
    intro r a cnt l k f f' o hn hf h hk hf' ho
    have hr : r = [] := List.eq_nil_of_length_eq_zero (by omega)
    subst hr
    have hl : l = [] := by
      cases f with
      | zero => cases h
      | succ f => simp only [lexS] at h; injection h with h; exact h.symm
    subst hl
    have hk : k = 0 := by simpa using hk
    subst hk
    have e := g1 false
    simp only [List.take_nil, List.drop_nil, List.nil_append, List.append_nil]
    rw [lexS_skip g.length g a cnt f' (g.length + 1) (Nat.le_refl _) (by simp at hf'; omega) (by omega), e, List.drop_length]
    rfl
  | succ n ih =>
    intro r a cnt l k f f' o hn hf h hk hf' ho
    have hgl := gap_le r false
    by_cases hq : gapL false r = r.length
    · rw [lexS_skip r.length r a cnt f f (Nat.le_refl _) hf hf, hq, List.drop_length] at h
      have hl : l = [] := by
        cases f with
        | zero => cases h
        | succ f => simp only [lexS] at h; injection h with h; exact h.symm
      subst hl
      have hk : k = 0 := by simpa using hk
      subst hk
      simp only [List.getElem?_nil] at ho
      subst ho
      rw [List.take_length, List.drop_length, List.append_nil]
      have e := gap_full r false g g1 hq
      rw [lexS_skip (r ++ g).length (r ++ g) a cnt f' (f' + 1) (Nat.le_refl _) (by simpa using hf') (by simp; omega), e, List.drop_length]
      rfl
    · have hlt : gapL false r < r.length := by omega
      have hd := gap_drop r false
      have hga := gap_app r false
      rw [lexS_skip r.length r a cnt f f (Nat.le_refl _) hf hf] at h
      generalize gapL false r = q at *
      obtain ⟨c, r2, hr2⟩ : ∃ c r2, r.drop q = c :: r2 := by
        cases e : r.drop q with
        | nil => exfalso; have := congrArg List.length e; simp at this; omega
        | cons c r2 => exact ⟨c, r2, rfl⟩
      have hlen : r2.length + 1 + q = r.length := by have := congrArg List.length hr2; simp at this; omega
      rw [hr2] at h hd
      obtain ⟨h4, h5⟩ := gap_zero hd
      have hstop : ∀ y, gapL false (c :: y) = 0 := fun y => by
        have := hd; simp only [gapL] at this ⊢; split at this
        · omega
        · rename_i hh; rw [if_neg hh]
      cases f with
      | zero => omega
      | succ f =>
        have h' := h
        obtain ⟨h2, h0, l', rfl, hl'⟩ := lexS_ok h4 h5 h
        have hp := raw_pos h0
        have hL := end_raw h0
        have hle := raw_le (c :: r2)
        generalize hLL : (tokAt (c :: r2)).raw.length = L at *
        simp only [List.length_cons] at hle
        cases k with
        | zero =>
          have ho' : o = q := by simp at ho; omega
          subst ho'
          rw [hr2]
          have e := hga (g ++ (c :: r2)) hlt
          rw [g2, hstop, Nat.add_zero] at e
          have hnl : (r.take o ++ (g ++ (c :: r2))).length = r.length + g.length := by simp; omega
          rw [lexS_skip (r.length + g.length) (r.take o ++ (g ++ (c :: r2))) a cnt f' f' (by omega) (by omega) (by omega), e]
          have hdrop : (r.take o ++ (g ++ (c :: r2))).drop (o + g.length) = c :: r2 := by
            have hto : (r.take o).length = o := by simp; omega
            rw [← List.append_assoc]
            have : (r.take o ++ g).length = o + g.length := by rw [List.length_append, hto]
            rw [← this, List.drop_left]
          rw [hdrop, ← Nat.add_assoc, lexS_shift g.length f' (c :: r2) (a + o) cnt (by simp; omega), lexS_fuel f' (f + 1) (c :: r2) (a + o) cnt (by simp; omega) (by simp; omega), h']
          rfl
        | succ k =>
          obtain ⟨o', rfl⟩ : ∃ o', o = q + (L + o') := by
            simp only [List.getElem?_cons_succ] at ho
            cases hx : l'[k]? with
            | none => rw [hx] at ho; exact ⟨r.length - q - L, by simp only at ho; omega⟩
            | some x =>
              rw [hx] at ho
              have := lex_from _ _ _ _ _ hl' x (List.mem_of_getElem? hx)
              exact ⟨x.at_ - a - q - L, by simp only at ho; omega⟩
          have hto : (r.take q).length = q := by simp; omega
          have e1 : r.take (q + (L + o')) = r.take q ++ (c :: r2).take (L + o') := by rw [List.take_add, hr2]
          have e2 : r.drop (q + (L + o')) = (c :: r2).drop (L + o') := by rw [← List.drop_drop, hr2]
          rw [e1, e2, List.append_assoc]
          obtain ⟨L', rfl⟩ : ∃ L', L = L' + 1 := ⟨L - 1, by omega⟩
          have hxc : (c :: r2).take (L' + 1 + o') ++ (g ++ (c :: r2).drop (L' + 1 + o')) = c :: (r2.take (L' + o') ++ (g ++ (c :: r2).drop (L' + 1 + o'))) := by
            rw [show L' + 1 + o' = (L' + o') + 1 by omega, List.take_succ_cons]; rfl
          have e := hga ((c :: r2).take (L' + 1 + o') ++ (g ++ (c :: r2).drop (L' + 1 + o'))) hlt
          rw [hxc, hstop, ← hxc] at e
          have e := e.trans (Nat.add_zero q)
          have hx : ∀ d x', g ++ (c :: r2).drop (L' + 1 + o') = d :: x' → isW d = false ∧ isDg d = false := by
            intro d x' q; rw [ge, List.cons_append] at q; injection q with q _; subst q; exact ⟨gw, gd⟩
          obtain ⟨t1, t2⟩ := tok_app (c := c) (r := r2) (m := L' + 1 + o') (x := g ++ (c :: r2).drop (L' + 1 + o')) (by omega) (by omega) hx
          have hnl : (r.take q ++ ((c :: r2).take (L' + 1 + o') ++ (g ++ (c :: r2).drop (L' + 1 + o')))).length = r.length + g.length := by simp; omega
          rw [lexS_skip (r.length + g.length) _ a cnt f' f' (by omega) (by omega) (by omega), e]
          have hdrop : (r.take q ++ ((c :: r2).take (L' + 1 + o') ++ (g ++ (c :: r2).drop (L' + 1 + o')))).drop q = (c :: r2).take (L' + 1 + o') ++ (g ++ (c :: r2).drop (L' + 1 + o')) := by
            have := @List.drop_left _ (r.take q) ((c :: r2).take (L' + 1 + o') ++ (g ++ (c :: r2).drop (L' + 1 + o')))
            rwa [hto] at this
          rw [hdrop]
          cases f' with
          | zero => omega
          | succ f' =>
            have hx0 : ((c :: r2).take (L' + 1 + o') ++ (g ++ (c :: r2).drop (L' + 1 + o'))).drop (L' + 1) = ((c :: r2).drop (L' + 1)).take o' ++ (g ++ ((c :: r2).drop (L' + 1)).drop o') := by
              have hl2 : ((c :: r2).take (L' + 1)).length = L' + 1 := by simp; omega
              have e3 : (c :: r2).drop (L' + 1 + o') = ((c :: r2).drop (L' + 1)).drop o' := by rw [List.drop_drop]
              have e4 : (c :: r2).take (L' + 1 + o') = (c :: r2).take (L' + 1) ++ ((c :: r2).drop (L' + 1)).take o' := List.take_add
              rw [e3, e4, List.append_assoc]
              have := @List.drop_left _ ((c :: r2).take (L' + 1)) (((c :: r2).drop (L' + 1)).take o' ++ (g ++ ((c :: r2).drop (L' + 1)).drop o'))
              rwa [hl2] at this
            have step := @lexS_tok f' c (r2.take (L' + o') ++ (g ++ (c :: r2).drop (L' + 1 + o'))) (a + q) cnt h4 h5 h2 (by rw [← hxc, t1]; exact h0)
            rw [← hxc, t1, hLL, hx0] at step
            rw [step]
            have := ih ((c :: r2).drop (L' + 1)) (a + q + (L' + 1)) (cnt + 1) l' k f f' o' (by simp; omega) (by simp; omega) hl' (by simpa using hk) (by simp; omega) (by
              simp only [List.getElem?_cons_succ] at ho
              cases hx : l'[k]? with
              | none => rw [hx] at ho; simp only [List.length_drop, List.length_cons] at ho ⊢; omega
              | some x =>
                rw [hx] at ho
                have := lex_from _ _ _ _ _ hl' x (List.mem_of_getElem? hx)
                simp only at ho ⊢; omega)
            rw [this]
            rfl

end Go.Ev
