/- The texts of tokens: where they stand, and that written out they are the same tokens; in plain lists of bytes. -/
import Derived.Test.YtgkjmdbjncnlpaaDoorEv7
namespace Go.Ev
set_option linter.unusedVariables false
set_option linter.unusedSimpArgs false

/-- A number in decimal digits. -/
def decN : Nat → Nat → List UInt8
  | 0, _ => []
  | f + 1, n => if n < 10 then [UInt8.ofNat (48 + n)] else decN f (n / 10) ++ [UInt8.ofNat (48 + n % 10)]

theorem valD_app : ∀ (l r : List UInt8) (acc : Nat), valD acc (l ++ r) = valD (valD acc l) r
  | [], _, _ => rfl
  | c :: l, r, acc => valD_app l r _

theorem ofNat_dig {c : UInt8} (h : 48 ≤ c.toNat) : UInt8.ofNat (48 + (c.toNat - 48)) = c := by
  rw [show 48 + (c.toNat - 48) = c.toNat by omega]; simp

theorem dec_val : ∀ (f : Nat) (l : List UInt8), (∀ c ∈ l, isDg c = true) → l ≠ [] → (∀ c r, l = c :: r → r ≠ [] → c.toNat ≠ 48) → l.length ≤ f → decN f (valD 0 l) = l := by
  intro f
  induction f with
  | zero => intro l _ h0 _ hl; exact absurd (List.eq_nil_of_length_eq_zero (by omega)) h0
  | succ f ih =>
    intro l hd h0 hz hl
    rcases List.eq_nil_or_concat l with h | ⟨l', c, rfl⟩
    · exact absurd h h0
    · rw [List.concat_eq_append] at *
      have hc := isDg_iff.1 (hd c (by simp))
      rw [valD_app, show valD (valD 0 l') [c] = valD 0 l' * 10 + (c.toNat - 48) from rfl]
      cases l' with
      | nil =>
        show decN (f + 1) (0 * 10 + (c.toNat - 48)) = _
        simp only [decN]
        rw [if_pos (by omega), show 48 + (0 * 10 + (c.toNat - 48)) = 48 + (c.toNat - 48) by omega, ofNat_dig hc.1]; rfl
      | cons d r =>
        have hdd := isDg_iff.1 (hd d (by simp))
        have hn := hz d (r ++ [c]) rfl (by simp)
        have hge : d.toNat - 48 ≤ valD 0 (d :: r) := by
          have := valD_ge r (0 * 10 + (d.toNat - 48))
          rw [show valD 0 (d :: r) = valD (0 * 10 + (d.toNat - 48)) r from rfl]
          omega
        have := ih (d :: r) (fun x hx => hd x (by simp at hx ⊢; rcases hx with h | h <;> simp [h])) (by simp) (fun c' r' q _ => by injection q with q _; subst q; exact hn) (by simp at hl ⊢; omega)
        generalize valD 0 (d :: r) = v at *
        simp only [decN]
        rw [if_neg (by omega), show (v * 10 + (c.toNat - 48)) / 10 = v by omega, show (v * 10 + (c.toNat - 48)) % 10 = c.toNat - 48 by omega, this, ofNat_dig hc.1]

/-- The text of a token. -/
def textT (x : Tok) : List UInt8 := if x.k = 2 then decN 9000 x.n.toNat else x.t

theorem numT_ok {t : List UInt8} (hd : ∀ c ∈ t, isDg c = true) (h0 : t ≠ []) (h : (numT t).2.2 = 0) : ¬ (1 < t.length ∧ (t.head?.map fun c => (c.toNat : Int)) = some 48) ∧ numT t = (2, (valD 0 t : Int), 0) ∧ valD 0 t ≤ 1000000 := by
  by_cases hz : 1 < t.length ∧ (t.head?.map fun c => (c.toNat : Int)) = some 48
  · unfold numT at h; rw [if_pos hz] at h; cases h
  · rw [numT_digits hd h0 hz] at h ⊢
    by_cases hv : 1000000 < valD 0 t
    · rw [if_pos hv] at h; cases h
    · rw [if_neg hv]; exact ⟨hz, rfl, by omega⟩

theorem text_raw {c : UInt8} {r : List UInt8} (a : Nat) (hl : (c :: r).length ≤ 9000) (h : (tokAt (c :: r)).e = 0) :
    textT ⟨(tokAt (c :: r)).k, (tokAt (c :: r)).t, (tokAt (c :: r)).n, a⟩ = (tokAt (c :: r)).raw ∧ 0 ≤ (tokAt (c :: r)).n ∧ (tokAt (c :: r)).n ≤ 1000000 := by
  rw [tokAt_cons] at h ⊢
  by_cases h1 : kindB c = 1
  · rw [if_pos h1] at h ⊢
    by_cases h2 : 12 < ((c :: r).takeWhile isW).length
    · rw [if_pos h2] at h; cases h
    · rw [if_neg h2]; exact ⟨rfl, Int.le_refl 0, (by decide : (0 : Int) ≤ 1000000)⟩
  · rw [if_neg h1] at h ⊢
    by_cases h2 : kindB c = 2
    · rw [if_pos h2] at h ⊢
      have hw : isDg c = true := by unfold isDg; rw [h2]; rfl
      have hall := takeWhile_all isDg (c :: r)
      have hle := takeWhile_le isDg (c :: r)
      have ht : (c :: r).takeWhile isDg = c :: r.takeWhile isDg := by simp [List.takeWhile_cons, hw]
      rw [ht] at hall hle h ⊢
      generalize r.takeWhile isDg = q at *
      obtain ⟨hz, e, hv⟩ := numT_ok hall (by simp) h
      rw [e]
      refine ⟨?_, Int.natCast_nonneg _, by simpa using by omega⟩
      have := dec_val 9000 (c :: q) hall (by simp) (fun c' r' e hr e48 => hz ⟨by cases q with | nil => injection e with _ e; exact absurd e.symm hr | cons => simp, by injection e with e _; subst e; simp [e48]⟩) (by omega)
      simpa [textT] using this
    · rw [if_neg h2] at h ⊢
      by_cases h3 : kindB c = 3
      · rw [if_pos h3]; exact ⟨rfl, Int.le_refl 0, (by decide : (0 : Int) ≤ 1000000)⟩
      · rw [if_neg h3] at h; cases h

/-- The first token, and what stands before it. -/
theorem lex_first {f : Nat} {r : List UInt8} {a cnt : Nat} {l : List Tok} (h : lexS f r a cnt = .ok l) (hf : r.length < f) :
    match l with
    | [] => gapL false r = r.length
    | t :: l' => ∃ c r2, r.drop (gapL false r) = c :: r2 ∧ kindB c ≠ 4 ∧ kindB c ≠ 5 ∧ cnt ≠ 2000 ∧ (tokAt (c :: r2)).e = 0 ∧ t = ⟨(tokAt (c :: r2)).k, (tokAt (c :: r2)).t, (tokAt (c :: r2)).n, a + gapL false r⟩ ∧
        lexS f ((c :: r2).drop (tokAt (c :: r2)).raw.length) (a + gapL false r + (tokAt (c :: r2)).raw.length) (cnt + 1) = .ok l' := by
  have hgl := gap_le r false
  have hd := gap_drop r false
  rw [lexS_skip r.length r a cnt f f (Nat.le_refl _) hf hf] at h
  generalize gapL false r = q at *
  cases e : r.drop q with
  | nil =>
    have hq : q = r.length := by have := congrArg List.length e; simp at this; omega
    rw [e] at h
    cases f with
    | zero => omega
    | succ f => simp only [lexS] at h; injection h with h; subst h; exact hq
  | cons c r2 =>
    have hlen : r2.length + 1 + q = r.length := by have := congrArg List.length e; simp at this; omega
    rw [e] at h hd
    obtain ⟨h4, h5⟩ := gap_zero hd
    cases f with
    | zero => omega
    | succ f =>
      obtain ⟨h2, h0, l', rfl, hl'⟩ := lexS_ok h4 h5 h
      have hp := raw_pos h0
      refine ⟨c, r2, rfl, h4, h5, h2, h0, rfl, ?_⟩
      rw [lexS_fuel (f + 1) f _ _ _ (by simp; omega) (by simp; omega)]
      exact hl'

/-- The texts of tokens, each followed by a blank. -/
def wrote (l : List Tok) : List UInt8 := l.flatMap fun t => textT t ++ [32]

def alikeB : List Tok → List Tok → Bool
  | [], [] => true
  | x :: a, y :: b => (x.k == y.k) && (x.t == y.t) && (x.n == y.n) && alikeB a b
  | _, _ => false

theorem lex_wrote : ∀ (l : List Tok) (f : Nat) (r : List UInt8) (a cnt : Nat), lexS f r a cnt = .ok l → r.length < f → r.length ≤ 9000 →
    (wrote l).length ≤ r.length + l.length ∧ ∀ (f' a' : Nat), (wrote l).length < f' → ∃ m, lexS f' (wrote l) a' cnt = .ok m ∧ alikeB l m = true
  | [], f, r, a, cnt, h, hf, hl => ⟨by simp [wrote], fun f' a' hf' => by
      obtain ⟨f', rfl⟩ : ∃ j, f' = j + 1 := ⟨f' - 1, by omega⟩
      exact ⟨[], rfl, rfl⟩⟩
  | t :: l, f, r, a, cnt, h, hf, hl => by
    obtain ⟨c, r2, e, h4, h5, h2, h0, rfl, h'⟩ := lex_first h hf
    have hgl := gap_le r false
    have hlen : r2.length + 1 + gapL false r = r.length := by have := congrArg List.length e; simp at this; omega
    have hp := raw_pos h0
    have hk := raw_le (c :: r2)
    have hraw := raw_pre (c :: r2)
    have hL := end_raw h0
    simp only [List.length_cons] at hk
    obtain ⟨w1, w2⟩ := lex_wrote l f _ _ _ h' (by simp; omega) (by simp; omega)
    have ht := (text_raw (a + gapL false r) (by simp; omega) h0).1
    have ew : wrote (⟨(tokAt (c :: r2)).k, (tokAt (c :: r2)).t, (tokAt (c :: r2)).n, a + gapL false r⟩ :: l) = (tokAt (c :: r2)).raw ++ 32 :: wrote l := by
      simp only [wrote, List.flatMap_cons, ht, List.append_assoc]; rfl
    rw [ew]
    have hx : ∀ d x', (32 : UInt8) :: wrote l = d :: x' → isW d = false ∧ isDg d = false := by
      intro d x' q; injection q with q _; subst q; exact ⟨rfl, rfl⟩
    have q := (@tok_app c r2 (tokAt (c :: r2)).raw.length (32 :: wrote l) (by omega) hp hx).1
    rw [← hraw] at q
    constructor
    · simp only [List.length_append, List.length_cons, List.length_drop] at w1 ⊢; omega
    · intro f' a' hf'
      simp only [List.length_append, List.length_cons] at hf'
      obtain ⟨f', rfl⟩ : ∃ j, f' = j + 2 := ⟨f' - 2, by omega⟩
      obtain ⟨m, em, am⟩ := w2 f' (a' + (tokAt (c :: r2)).raw.length + 1) (by omega)
      refine ⟨⟨(tokAt (c :: r2)).k, (tokAt (c :: r2)).t, (tokAt (c :: r2)).n, a'⟩ :: m, ?_, by simp [alikeB, am]⟩
      have st := fun r' => @lexS_tok (f' + 1) c r' a' cnt h4 h5 h2
      generalize hT : tokAt (c :: r2) = T at *
      obtain ⟨w, hw⟩ : ∃ w, T.raw = c :: w := by
        cases hr : T.raw.length with
        | zero => omega
        | succ j => rw [hr, List.take_succ_cons] at hraw; exact ⟨_, hraw⟩
      have hq := q
      rw [hw, List.cons_append] at hq ⊢
      rw [st _ (by rw [hq]; exact h0), hq, ← List.cons_append, ← hw, List.drop_left]
      have e2 : lexS (f' + 1) (32 :: wrote l) (a' + T.raw.length) (cnt + 1) = lexS f' (wrote l) (a' + T.raw.length + 1) (cnt + 1) := rfl
      rw [e2, em]

end Go.Ev
