/- Gaps and ends of tokens, in plain lists of bytes. -/
import Derived.Test.YtgkjmdbjncnlpaaDoorEv2
namespace Go.Ev
set_option linter.unusedVariables false
set_option linter.unusedSimpArgs false

def gapFl (fl : Bool) (c : UInt8) : Bool := if (c.toNat : Int) = 10 then false else fl || ((c.toNat : Int) == 35)
def gapGo (fl : Bool) (c : UInt8) : Bool := gapFl fl c || kindB c == 4

/-- So many bytes of a gap stand at the head. -/
def gapL : Bool → List UInt8 → Nat
  | _, [] => 0
  | fl, c :: r => if gapGo fl c then gapL (gapFl fl c) r + 1 else 0

theorem gap_le : ∀ (l : List UInt8) (fl : Bool), gapL fl l ≤ l.length
  | [], _ => Nat.le_refl _
  | c :: r, fl => by
    have := gap_le r (gapFl fl c)
    simp only [gapL, List.length_cons]
    split <;> omega

theorem gap_drop : ∀ (l : List UInt8) (fl : Bool), gapL false (l.drop (gapL fl l)) = 0
  | [], _ => by simp [gapL]
  | c :: r, fl => by
    have ih := gap_drop r (gapFl fl c)
    by_cases h : gapGo fl c = true
    · rw [show gapL fl (c :: r) = gapL (gapFl fl c) r + 1 from by simp only [gapL]; rw [if_pos h], List.drop_succ_cons]
      exact ih
    · rw [show gapL fl (c :: r) = 0 from by simp only [gapL]; rw [if_neg h], List.drop_zero]
      simp only [gapL]
      rw [if_neg]
      intro h2
      apply h
      unfold gapGo gapFl at *
      split at h2
      · rename_i e; rw [if_pos e]; exact h2
      · rename_i e; rw [if_neg e]; cases fl <;> simp_all

theorem kindB_10 {c : UInt8} (h : (c.toNat : Int) = 10) : kindB c = 4 := by unfold kindB; rw [h]; decide
theorem kindB_35 {c : UInt8} (h : (c.toNat : Int) = 35) : kindB c = 5 := by unfold kindB; rw [h]; decide
theorem kindB_5 {c : UInt8} (h : kindB c = 5) : (c.toNat : Int) = 35 := by
  unfold kindB kindI at h
  repeat (split at h <;> try omega)

theorem gap_zero {c : UInt8} {r : List UInt8} (h : gapL false (c :: r) = 0) : kindB c ≠ 4 ∧ kindB c ≠ 5 := by
  simp only [gapL] at h
  split at h
  · omega
  · rename_i g
    unfold gapGo gapFl at g
    refine ⟨fun e => g (by rw [e]; simp), fun e => g ?_⟩
    have := kindB_5 e
    rw [if_neg (by omega), this]; simp

theorem lexS_fuel : ∀ (f f' : Nat) (r : List UInt8) (a cnt : Nat), r.length < f → r.length < f' → lexS f r a cnt = lexS f' r a cnt := by
  intro f
  induction f with
  | zero => intro f' r a cnt h; omega
  | succ f ih =>
    intro f' r a cnt h h'
    cases f' with
    | zero => omega
    | succ f' =>
      cases r with
      | nil => rfl
      | cons c r =>
        simp only [List.length_cons] at h h'
        have e1 := ih f' r (a + 1) cnt (by omega) (by omega)
        simp only [lexS]
        rw [e1]
        by_cases h5 : kindB c = 5
        · have hc : isC c = true := by unfold isC; rw [kindB_5 h5]; rfl
          have e2 := ih f' ((c :: r).drop ((c :: r).takeWhile isC).length) (a + ((c :: r).takeWhile isC).length) cnt (by simp [List.takeWhile_cons, hc]; omega) (by simp [List.takeWhile_cons, hc]; omega)
          rw [e2, if_pos h5, if_pos h5]
        · rw [if_neg h5, if_neg h5]
          by_cases h0 : (tokAt (c :: r)).e = 0
          · have hp := raw_pos h0
            have e3 := ih f' ((c :: r).drop (tokAt (c :: r)).raw.length) (a + (tokAt (c :: r)).raw.length) (cnt + 1) (by simp; omega) (by simp; omega)
            rw [e3]
          · rw [if_neg h0, if_neg h0]

/-- In a comment the gap goes on to the end of the line. -/
theorem gap_comment : ∀ (r : List UInt8), gapL true r = (r.takeWhile isC).length + gapL false (r.drop (r.takeWhile isC).length)
  | [] => rfl
  | c :: r => by
    have ih := gap_comment r
    by_cases h : (c.toNat : Int) = 10
    · have hc : isC c = false := by unfold isC; rw [h]; rfl
      have e : ∀ fl, gapFl fl c = false := fun fl => by unfold gapFl; rw [if_pos h]
      simp only [gapL, List.takeWhile_cons, hc, gapGo, e]
      simp [gapL, gapGo, e]
    · have hc : isC c = true := by unfold isC; rw [bne_iff_ne]; exact h
      have e : gapFl true c = true := by unfold gapFl; rw [if_neg h]; rfl
      simp only [gapL, gapGo, e, Bool.true_or, if_true, List.takeWhile_cons, hc, List.length_cons, List.drop_succ_cons, ih]
      omega

theorem lexS_skip : ∀ (n : Nat) (r : List UInt8) (a cnt f f' : Nat), r.length ≤ n → r.length < f → r.length < f' →
    lexS f r a cnt = lexS f' (r.drop (gapL false r)) (a + gapL false r) cnt := by
  intro n
  induction n with
  | zero =>
    intro r a cnt f f' h hf hf'
    cases r with
    | nil => exact lexS_fuel f f' [] a cnt hf hf'
    | cons c r => simp at h
  | succ n ih =>
    intro r a cnt f f' h hf hf'
    cases r with
    | nil => exact lexS_fuel f f' [] a cnt hf hf'
    | cons c r =>
      simp only [List.length_cons] at h hf hf'
      cases f with
      | zero => omega
      | succ f =>
        by_cases h4 : kindB c = 4
        · have hn : ¬ (c.toNat : Int) = 35 := fun e => by rw [kindB_35 e] at h4; omega
          have e1 : gapFl false c = false := by unfold gapFl; split <;> simp [hn]
          have e2 : gapL false (c :: r) = gapL false r + 1 := by simp only [gapL, gapGo, e1, h4]; rfl
          rw [e2, List.drop_succ_cons, show lexS (f + 1) (c :: r) a cnt = lexS f r (a + 1) cnt from by simp only [lexS]; rw [if_pos h4]]
          rw [ih r (a + 1) cnt f f' (by omega) (by omega) (by omega)]
          congr 1; omega
        · by_cases h5 : kindB c = 5
          · have h35 := kindB_5 h5
            have hc : isC c = true := by unfold isC; rw [h35]; rfl
            have e1 : gapFl false c = true := by unfold gapFl; rw [if_neg (by omega), h35]; rfl
            have e2 : gapL false (c :: r) = gapL true r + 1 := by simp only [gapL, gapGo, e1]; rfl
            have e3 : ((c :: r).takeWhile isC).length = (r.takeWhile isC).length + 1 := by simp [List.takeWhile_cons, hc]
            have hk := takeWhile_le isC r
            rw [show lexS (f + 1) (c :: r) a cnt = lexS f ((c :: r).drop ((c :: r).takeWhile isC).length) (a + ((c :: r).takeWhile isC).length) cnt from by simp only [lexS]; rw [if_neg h4, if_pos h5]]
            rw [e2, e3, gap_comment r, List.drop_succ_cons, List.drop_succ_cons]
            rw [ih (r.drop (r.takeWhile isC).length) _ cnt f f' (by simp; omega) (by simp; omega) (by simp; omega), List.drop_drop]
            congr 1; omega
          · have e2 : gapL false (c :: r) = 0 := by
              simp only [gapL]
              rw [if_neg]
              unfold gapGo gapFl
              have h10 : ¬ (c.toNat : Int) = 10 := fun e => h4 (kindB_10 e)
              have h35 : ¬ (c.toNat : Int) = 35 := fun e => h5 (kindB_35 e)
              rw [if_neg h10]
              simp [h35, h4]
            rw [e2]
            exact lexS_fuel (f + 1) f' (c :: r) a cnt (by simpa using hf) (by simpa using hf')

/-- So many bytes has the token at the head. -/
def endL : List UInt8 → Nat
  | [] => 0
  | c :: r => if kindB c = 1 then ((c :: r).takeWhile isW).length else if kindB c = 2 then ((c :: r).takeWhile isDg).length else if kindB c = 3 then 1 else 0

theorem endL_cons (c : UInt8) (r : List UInt8) : endL (c :: r) = if kindB c = 1 then ((c :: r).takeWhile isW).length else if kindB c = 2 then ((c :: r).takeWhile isDg).length else if kindB c = 3 then 1 else 0 := rfl

theorem end_le : ∀ l : List UInt8, endL l ≤ l.length
  | [] => Nat.le_refl _
  | c :: r => by
    have h1 := takeWhile_le isW (c :: r)
    have h2 := takeWhile_le isDg (c :: r)
    rw [endL_cons]
    split
    · exact h1
    · split
      · exact h2
      · split <;> simp

theorem end_raw {c : UInt8} {r : List UInt8} (h : (tokAt (c :: r)).e = 0) : (tokAt (c :: r)).raw.length = endL (c :: r) := by
  rw [tokAt_cons] at h ⊢
  rw [endL_cons]
  by_cases h1 : kindB c = 1
  · rw [if_pos h1] at h ⊢
    rw [if_pos h1]
    by_cases h2 : 12 < ((c :: r).takeWhile isW).length
    · rw [if_pos h2] at h; cases h
    · rw [if_neg h2]
  · rw [if_neg h1] at h ⊢
    rw [if_neg h1]
    by_cases h2 : kindB c = 2
    · rw [if_pos h2, if_pos h2]
    · rw [if_neg h2] at h ⊢
      rw [if_neg h2]
      by_cases h3 : kindB c = 3
      · rw [if_pos h3, if_pos h3]; rfl
      · rw [if_neg h3] at h; cases h

theorem end_zero {c : UInt8} {r : List UInt8} : endL (c :: r) = 0 ↔ kindB c ≠ 1 ∧ kindB c ≠ 2 ∧ kindB c ≠ 3 := by
  rw [endL_cons]
  by_cases h1 : kindB c = 1
  · have hw : isW c = true := by unfold isW; rw [h1]; rfl
    rw [if_pos h1]; simp [List.takeWhile_cons, hw, h1]
  · rw [if_neg h1]
    by_cases h2 : kindB c = 2
    · have hw : isDg c = true := by unfold isDg; rw [h2]; rfl
      rw [if_pos h2]; simp [List.takeWhile_cons, hw, h2]
    · rw [if_neg h2]
      by_cases h3 : kindB c = 3
      · rw [if_pos h3]; simp [h3]
      · rw [if_neg h3]; simp [h1, h2, h3]

end Go.Ev
