/- What the reference lexer answers, in plain lists of bytes. -/
import Derived.Test.YtgkjmdbjncnlpaaDoorKn
import Derived.Test.YtgkjmdbjncnlpaaDoorEv3
namespace Go.Proofs.YtgkjmdbjncnlpaaDoor
open Go.Ev
set_option linter.unusedVariables false
set_option linter.unusedSimpArgs false
set_option maxRecDepth 100000

theorem F24_eq (n : Nat) (b : Int) : F24 n [.int .u8 b] = some (.bool (kindI b == 1)) := by
  unfold F24 S24_1
  simp only []
  by_cases h1 : b ≥ 97
  · rw [decide_eq_true h1, cond_t]
    by_cases h2 : b ≤ 122
    · rw [decide_eq_true h2, beq_iff_eq.2 (kindI_1.2 ⟨h1, h2⟩)]
    · rw [decide_eq_false h2, beq_eq_false_iff_ne.2 (fun e => h2 (kindI_1.1 e).2)]
  · rw [decide_eq_false h1, cond_f, beq_eq_false_iff_ne.2 (fun e => h1 (kindI_1.1 e).1)]

theorem F25_eq (n : Nat) (b : Int) : F25 n [.int .u8 b] = some (.bool (kindI b == 2)) := by
  unfold F25 S25_1
  simp only []
  by_cases h1 : b ≥ 48
  · rw [decide_eq_true h1, cond_t]
    by_cases h2 : b ≤ 57
    · rw [decide_eq_true h2, beq_iff_eq.2 (kindI_2.2 ⟨h1, h2⟩)]
    · rw [decide_eq_false h2, beq_eq_false_iff_ne.2 (fun e => h2 (kindI_2.1 e).2)]
  · rw [decide_eq_false h1, cond_f, beq_eq_false_iff_ne.2 (fun e => h1 (kindI_2.1 e).1)]

theorem gap_loop {ρ : Type} (n : Nat) (s : List UInt8) (hs : s.length ≤ 10000) (k0 : Int → Option ρ) (k1 : Int → Bool → Option ρ) (hk : ∀ a b, k1 a b = k0 a) :
    ∀ (r pre : List UInt8) (f : Nat) (fl : Bool), s = pre ++ r → r.length < f → L14_3 n f s pre.length fl k0 k1 = k0 ((pre.length + gapL fl r : Nat) : Int) := by
  intro r
  induction r with
  | nil =>
    intro pre f fl h hf
    cases f with
    | zero => omega
    | succ f =>
      show S14_2 n s pre.length fl (k0 pre.length) (fun x1 x2 => L14_3 n f s x1 x2 k0 k1) (k1 pre.length fl) = _
      unfold S14_2
      rw [step_out (by subst h; simp), hk]; rfl
  | cons c r ih =>
    intro pre f fl h hf
    cases f with
    | zero => omega
    | succ f =>
      have hg : s[pre.length]? = some c := by subst h; simp
      have hpl : pre.length ≤ 10000 := by subst h; simp at hs; omega
      show S14_2 n s pre.length fl (k0 pre.length) (fun x1 x2 => L14_3 n f s x1 x2 k0 k1) (k1 pre.length fl) = _
      unfold S14_2
      rw [step_in hg, wr (by omega)]
      have go : ∀ fl' : Bool, L14_3 n f s ((pre.length + 1 : Nat) : Int) fl' k0 k1 = k0 ((pre.length + (gapL fl' r + 1) : Nat) : Int) := fun fl' => by
        have := ih (pre ++ [c]) f fl' (by simp [h]) (by simp at hf; omega)
        rw [List.length_append, List.length_singleton] at this
        rw [this]; congr 2; omega
      simp only [go]
      show _ = k0 ((pre.length + (if gapGo fl c then gapL (gapFl fl c) r + 1 else 0) : Nat) : Int)
      by_cases h10 : (c.toNat : Int) = 10
      · have e1 : gapFl fl c = false := by unfold gapFl; rw [if_pos h10]
        have e2 : gapGo fl c = true := by unfold gapGo; rw [kindB_10 h10]; simp
        rw [e1, if_pos e2, h10]; rfl
      · by_cases h35 : (c.toNat : Int) = 35
        · have e1 : gapFl fl c = true := by unfold gapFl; rw [if_neg h10, h35]; simp
          have e2 : gapGo fl c = true := by unfold gapGo; rw [e1]; rfl
          rw [e1, if_pos e2, h35]; rfl
        · have e1 : gapFl fl c = fl := by unfold gapFl; rw [if_neg h10, beq_eq_false_iff_ne.2 h35]; simp
          have e4 : (kindB c == 4) = (((c.toNat : Int) == 32) || ((c.toNat : Int) == 9)) := by
            unfold kindB kindI
            by_cases a : (c.toNat : Int) = 32
            · rw [a]; rfl
            · by_cases b : (c.toNat : Int) = 9
              · rw [b]; rfl
              · rw [beq_eq_false_iff_ne.2 a, beq_eq_false_iff_ne.2 b]
                show _ = false
                rw [beq_eq_false_iff_ne]
                intro h
                repeat (split at h <;> try omega)
          rw [e1]
          unfold gapGo
          rw [e1, e4, beq_eq_false_iff_ne.2 h35, beq_eq_false_iff_ne.2 h10, bne_iff_ne.2 h10]
          by_cases a : (c.toNat : Int) = 32
          · rw [a]; cases fl <;> rfl
          · by_cases b : (c.toNat : Int) = 9
            · rw [b]; cases fl <;> rfl
            · rw [beq_eq_false_iff_ne.2 a, beq_eq_false_iff_ne.2 b, bne_iff_ne.2 a, bne_iff_ne.2 b]
              cases fl <;> rfl

theorem F14_eq {s pre r : List UInt8} (hs : s = pre ++ r) (hl : s.length ≤ 8000) : F14 9000 [.str s, .int .i64 pre.length] = some (.int .i64 ((pre.length + gapL false r : Nat) : Int)) := by
  unfold F14 S14_1
  have := gap_loop (ρ := D) 9000 s (by omega) (fun x1 => S14_4 9000 x1 (some (.int .i64 x1))) (fun x2 x3 => S14_5 9000 s x2 x3 (some (.int .i64 x2))) (fun _ _ => rfl) r pre 9000 false hs (by subst hs; simp at hl; omega)
  exact this

theorem word_loop2 {ρ : Type} (n : Nat) (s : List UInt8) (hs : s.length ≤ 10000) (k0 : Int → Option ρ) :
    ∀ (r pre : List UInt8) (f : Nat), s = pre ++ r → r.length < f → L16_3 n f s pre.length k0 = k0 ((pre.length + (r.takeWhile isW).length : Nat) : Int) := by
  refine run_gen isW s (fun f i => L16_3 n f s i k0) k0 fun m i hi => ?_
  show S16_2 n s i (fun x1 => L16_3 n m s x1 k0) (k0 i) = _
  unfold S16_2
  cases h : s[i]? with
  | none => exact step_out h _ _
  | some c =>
    rw [step_in h]
    simp only [F24_eq, F25_eq, bind_mk, gB_mk, wr (Nat.le_trans hi (Nat.le_trans hs (by omega))), decide_eq_true (show (0 : Int) ≤ (i : Int) by omega), ass_mk, Int.toNat_natCast, gU, h]
    show _ = if isW c then _ else _
    unfold isW kindB
    cases e1 : (kindI (c.toNat : Int) == 1) <;> cases e2 : (kindI (c.toNat : Int) == 2) <;> cases e3 : ((c.toNat : Int) == 95) <;> simp

theorem digit_loop2 {ρ : Type} (n : Nat) (s : List UInt8) (hs : s.length ≤ 10000) (k0 : Int → Option ρ) :
    ∀ (r pre : List UInt8) (f : Nat), s = pre ++ r → r.length < f → L16_6 n f s pre.length k0 = k0 ((pre.length + (r.takeWhile isDg).length : Nat) : Int) := by
  refine run_gen isDg s (fun f i => L16_6 n f s i k0) k0 fun m i hi => ?_
  show S16_5 n s i (fun x1 => L16_6 n m s x1 k0) (k0 i) = _
  unfold S16_5
  cases h : s[i]? with
  | none => exact step_out h _ _
  | some c =>
    rw [step_in h]
    simp only [F25_eq, bind_mk, gB_mk, wr (Nat.le_trans hi (Nat.le_trans hs (by omega)))]
    show _ = if isDg c then _ else _
    unfold isDg kindB
    cases e2 : (kindI (c.toNat : Int) == 2) <;> simp

theorem kind3 (c : UInt8) : (kindB c == 3) = (((c.toNat : Int) == 59) || ((c.toNat : Int) == 123) || ((c.toNat : Int) == 125)) := by
  unfold kindB kindI
  by_cases a : (c.toNat : Int) = 59
  · rw [a]; rfl
  · by_cases b : (c.toNat : Int) = 123
    · rw [b]; rfl
    · by_cases d : (c.toNat : Int) = 125
      · rw [d]; rfl
      · rw [beq_eq_false_iff_ne.2 a, beq_eq_false_iff_ne.2 b, beq_eq_false_iff_ne.2 d]
        show _ = false
        rw [beq_eq_false_iff_ne]
        intro h
        repeat (split at h <;> try omega)

theorem F16_eq {s pre r : List UInt8} {c : UInt8} (hs : s = pre ++ c :: r) (hl : s.length ≤ 8000) : F16 9000 [.str s, .int .i64 pre.length] = some (.int .i64 ((pre.length + endL (c :: r) : Nat) : Int)) := by
  have hg : s[pre.length]? = some c := by subst hs; simp
  have hl2 : pre.length + (c :: r).length ≤ 8000 := by subst hs; simpa using hl
  have hlt : pre.length < s.length := by subst hs; simp
  simp only [List.length_cons] at hl2
  unfold F16 S16_1
  simp only [decide_eq_false (show ¬ ((pre.length : Int) ≥ (s.length : Int)) by omega), cond_f, decide_eq_true (show (0 : Int) ≤ (pre.length : Int) by omega), ass_mk, Int.toNat_natCast, gU, hg, F24_eq, F25_eq, bind_mk, gB_mk, wr (show pre.length ≤ 1000000 by omega), show kindI (c.toNat : Int) = kindB c from rfl]
  rw [endL_cons]
  have k3 := kind3 c
  by_cases h3 : kindB c = 3
  · rw [if_neg (by omega), if_neg (by omega), if_pos h3]
    rw [beq_iff_eq.2 h3] at k3
    cases a : ((c.toNat : Int) == 59) <;> cases b : ((c.toNat : Int) == 123) <;> cases d : ((c.toNat : Int) == 125) <;> simp_all
  · rw [if_neg h3]
    rw [beq_eq_false_iff_ne.2 h3] at k3
    have k3 := k3.symm
    simp only [Bool.or_eq_false_iff] at k3
    rw [k3.1.1, k3.1.2, k3.2, cond_f, cond_f, cond_f]
    by_cases h1 : kindB c = 1
    · rw [if_pos h1, beq_iff_eq.2 h1, cond_t, word_loop2 9000 s (by omega) _ (c :: r) pre 9000 hs (by simp; omega)]; rfl
    · rw [if_neg h1, beq_eq_false_iff_ne.2 h1, cond_f]
      by_cases h2 : kindB c = 2
      · rw [if_pos h2, beq_iff_eq.2 h2, cond_t, digit_loop2 9000 s (by omega) _ (c :: r) pre 9000 hs (by simp; omega)]; rfl
      · rw [if_neg h2, beq_eq_false_iff_ne.2 h2, cond_f]; rfl

theorem num_loop {ρ : Type} (n : Nat) (s : List UInt8) (hs : s.length ≤ 10000) (k0 : Option ρ) (k1 : Int → Int → Option ρ) :
    ∀ (r pre : List UInt8) (f acc : Nat), s = pre ++ r → r.length < f → (∀ c ∈ r, isDg c = true) → acc ≤ 1000000 →
    L22_3 n f s acc pre.length k0 k1 = if 1000000 < valD acc r then k0 else k1 (valD acc r) s.length := by
  intro r
  induction r with
  | nil =>
    intro pre f acc h hf hd ha
    cases f with
    | zero => omega
    | succ f =>
      show S22_2 n s acc pre.length k0 (fun x1 x2 => L22_3 n f s x1 x2 k0 k1) (k1 acc pre.length) = _
      unfold S22_2
      rw [step_out (by subst h; simp), show valD acc [] = acc from rfl, if_neg (by omega)]
      subst h; simp
  | cons c r ih =>
    intro pre f acc h hf hd ha
    cases f with
    | zero => omega
    | succ f =>
      have hg : s[pre.length]? = some c := by subst h; simp
      have hpl : pre.length ≤ 10000 := by subst h; simp at hs; omega
      have hc := isDg_iff.1 (hd c (by simp))
      show S22_2 n s acc pre.length k0 (fun x1 x2 => L22_3 n f s x1 x2 k0 k1) (k1 acc pre.length) = _
      unfold S22_2
      rw [step_in hg, wr (by omega), IntWalk.u8_in _ ⟨by omega, by omega⟩, wrap64_in (n := (c.toNat : Int) - 48) (by omega) (by omega), wrap64_in (n := 10 * (acc : Int)) (by omega) (by omega), wrap64_in (by omega) (by omega)]
      rw [show (10 * (acc : Int) + ((c.toNat : Int) - 48)) = ((acc * 10 + (c.toNat - 48) : Nat) : Int) by omega]
      rw [show valD acc (c :: r) = valD (acc * 10 + (c.toNat - 48)) r from rfl]
      have hge := valD_ge r (acc * 10 + (c.toNat - 48))
      generalize acc * 10 + (c.toNat - 48) = x at *
      by_cases hx : 1000000 < x
      · rw [decide_eq_true (by omega), cond_t, if_pos (by omega)]
      · rw [decide_eq_false (by omega), cond_f]
        have := ih (pre ++ [c]) f x (by simp [h]) (by simp at hf; omega) (fun y hy => hd y (by simp [hy])) (by omega)
        rw [List.length_append, List.length_singleton] at this
        exact this

def rtkD (x : Tk) : D := .tup [.agg [.int .i64 x.k, .str x.t, .int .i64 x.n, .int .i64 0], .int .i64 x.e]

theorem F22_eq {c : UInt8} {r : List UInt8} (hl : (c :: r).length ≤ 8000) (h : endL (c :: r) ≠ 0) : F22 9000 [.str ((c :: r).take (endL (c :: r)))] = some (rtkD (tokAt (c :: r))) := by
  rw [tokAt_cons]
  by_cases h1 : kindB c = 1
  · rw [if_pos h1, endL_cons, if_pos h1, take_takeWhile]
    have hw : isW c = true := by unfold isW; rw [h1]; rfl
    have ht : (c :: r).takeWhile isW = c :: r.takeWhile isW := by simp [List.takeWhile_cons, hw]
    rw [ht]
    unfold F22 S22_1
    simp only [gU, List.getElem?_cons_zero, F24_eq, bind_mk, gB_mk, show kindI (c.toNat : Int) = kindB c from rfl, beq_iff_eq.2 h1, cond_t]
    by_cases h2 : 12 < (c :: r.takeWhile isW).length
    · rw [if_pos h2, decide_eq_true (by omega)]; rfl
    · rw [if_neg h2, decide_eq_false (by omega)]; rfl
  · rw [if_neg h1]
    by_cases h2 : kindB c = 2
    · rw [if_pos h2, endL_cons, if_neg h1, if_pos h2, take_takeWhile]
      have hw : isDg c = true := by unfold isDg; rw [h2]; rfl
      have hall := takeWhile_all isDg (c :: r)
      have hle := takeWhile_le isDg (c :: r)
      have ht : (c :: r).takeWhile isDg = c :: r.takeWhile isDg := by simp [List.takeWhile_cons, hw]
      rw [ht] at hall hle ⊢
      generalize r.takeWhile isDg = q at *
      unfold F22 S22_1
      simp only [gU, List.getElem?_cons_zero, F24_eq, F25_eq, bind_mk, gB_mk, show kindI (c.toNat : Int) = kindB c from rfl, beq_iff_eq.2 h2, beq_eq_false_iff_ne.2 h1, cond_f, Bool.not_true]
      have lp := num_loop (ρ := D) 9000 (c :: q) (by omega) (S22_4 9000 (some (rtkD ⟨0, [], 0, [], 3⟩))) (fun x6 x7 => S22_5 9000 (c :: q) x6 x7 (some (rtkD ⟨2, [], x6, [], 0⟩))) (c :: q) [] 9000 0 rfl (by omega) hall (by omega)
      by_cases hz : 1 < (c :: q).length ∧ ((c :: q).head?.map fun c => (c.toNat : Int)) = some 48
      · rw [show numT (c :: q) = (0, 0, 7) from if_pos hz]
        rw [decide_eq_true (show ((c :: q).length : Int) > 1 by omega), cond_t]
        have : (c.toNat : Int) = 48 := by simpa using hz.2
        rw [beq_iff_eq.2 this]; rfl
      · have hn := numT_digits hall (by simp) hz
        have key : L22_3 9000 9000 (c :: q) 0 0 (S22_4 9000 (some (rtkD ⟨0, [], 0, [], 3⟩))) (fun x6 x7 => S22_5 9000 (c :: q) x6 x7 (some (rtkD ⟨2, [], x6, [], 0⟩))) = some (rtkD ⟨(numT (c :: q)).1, [], (numT (c :: q)).2.1, c :: q, (numT (c :: q)).2.2⟩) := by
          refine Eq.trans lp ?_
          rw [hn]
          split <;> rfl
        by_cases hg : 1 < (c :: q).length
        · rw [decide_eq_true (show ((c :: q).length : Int) > 1 by omega), cond_t]
          have : ¬ (c.toNat : Int) = 48 := fun e => hz ⟨hg, by simpa using e⟩
          rw [beq_eq_false_iff_ne.2 this, cond_f]
          exact key
        · rw [decide_eq_false (show ¬ ((c :: q).length : Int) > 1 by omega), cond_f]
          exact key
    · rw [if_neg h2]
      by_cases h3 : kindB c = 3
      · rw [if_pos h3, endL_cons, if_neg h1, if_neg h2, if_pos h3]
        unfold F22 S22_1
        simp only [List.take_succ_cons, List.take_zero, gU, List.getElem?_cons_zero, F24_eq, F25_eq, bind_mk, gB_mk, show kindI (c.toNat : Int) = kindB c from rfl, beq_eq_false_iff_ne.2 h2, beq_eq_false_iff_ne.2 h1, cond_f, Bool.not_false, cond_t]
        rfl
      · exact absurd (end_zero.2 ⟨h1, h2, h3⟩) h

end Go.Proofs.YtgkjmdbjncnlpaaDoor
