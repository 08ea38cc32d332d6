/- A gap between tokens, in plain lists of bytes. -/
import Derived.Test.YtgkjmdbjncnlpaaDoorEv3
namespace Go.Ev
set_option linter.unusedVariables false
set_option linter.unusedSimpArgs false

/-- Bytes that are a gap wherever they stand, and that end no word. -/
def gapT (g : List UInt8) : Prop := (∀ fl, gapL fl g = g.length) ∧ (∀ r, gapL false (g ++ r) = g.length + gapL false r) ∧ ∃ c g', g = c :: g' ∧ isW c = false ∧ isDg c = false

theorem gap_app : ∀ (r : List UInt8) (fl : Bool) (x : List UInt8), gapL fl r < r.length → gapL fl (r.take (gapL fl r) ++ x) = gapL fl r + gapL false x
  | [], fl, x, h => by simp [gapL] at h
  | c :: r, fl, x, h => by
    by_cases hg : gapGo fl c = true
    · have e : gapL fl (c :: r) = gapL (gapFl fl c) r + 1 := by simp only [gapL]; rw [if_pos hg]
      rw [e] at h ⊢
      have ih := gap_app r (gapFl fl c) x (by simpa using h)
      rw [List.take_succ_cons, List.cons_append, show gapL fl (c :: (r.take (gapL (gapFl fl c) r) ++ x)) = gapL (gapFl fl c) (r.take (gapL (gapFl fl c) r) ++ x) + 1 from by simp only [gapL]; rw [if_pos hg], ih]
      omega
    · have e : gapL fl (c :: r) = 0 := by simp only [gapL]; rw [if_neg hg]
      rw [e]
      have hf : fl = false := by
        cases fl with
        | false => rfl
        | true =>
          exfalso; apply hg
          unfold gapGo gapFl
          by_cases h10 : (c.toNat : Int) = 10
          · rw [kindB_10 h10]; simp
          · rw [if_neg h10]; rfl
      rw [hf]; simp

theorem gap_full : ∀ (r : List UInt8) (fl : Bool) (g : List UInt8), (∀ fl, gapL fl g = g.length) → gapL fl r = r.length → gapL fl (r ++ g) = (r ++ g).length
  | [], fl, g, hg, _ => by simpa using hg fl
  | c :: r, fl, g, hg, h => by
    by_cases hc : gapGo fl c = true
    · have e : ∀ y, gapL fl (c :: y) = gapL (gapFl fl c) y + 1 := fun y => by simp only [gapL]; rw [if_pos hc]
      rw [e] at h
      have ih := gap_full r (gapFl fl c) g hg (by simpa using h)
      rw [List.cons_append, e, ih]; simp
    · have e : gapL fl (c :: r) = 0 := by simp only [gapL]; rw [if_neg hc]
      rw [e] at h; simp at h

theorem takeWhile_app (p : UInt8 → Bool) : ∀ (r : List UInt8) (m : Nat) (x : List UInt8), (r.takeWhile p).length ≤ m → (∀ c x', x = c :: x' → p c = false) → (r.take m ++ x).takeWhile p = r.takeWhile p
  | [], m, x, _, hx => by
    cases x with
    | nil => simp
    | cons c x' => simp [List.takeWhile_cons, hx c x' rfl]
  | c :: r, 0, x, h, hx => by
    have hc : p c = false := by
      cases hp : p c with
      | false => rfl
      | true => simp [List.takeWhile_cons, hp] at h
    cases x with
    | nil => simp [List.takeWhile_cons, hc]
    | cons d x' => simp [List.takeWhile_cons, hc, hx d x' rfl]
  | c :: r, m + 1, x, h, hx => by
    cases hp : p c with
    | false => simp [List.takeWhile_cons, hp]
    | true =>
      have ih := takeWhile_app p r m x (by simpa [List.takeWhile_cons, hp] using h) hx
      simp [List.takeWhile_cons, hp, ih]

theorem tok_app {c : UInt8} {r : List UInt8} {m : Nat} {x : List UInt8} (hm : endL (c :: r) ≤ m) (h1 : 1 ≤ m) (hx : ∀ d x', x = d :: x' → isW d = false ∧ isDg d = false) :
    tokAt ((c :: r).take m ++ x) = tokAt (c :: r) ∧ endL ((c :: r).take m ++ x) = endL (c :: r) := by
  obtain ⟨m, rfl⟩ : ∃ j, m = j + 1 := ⟨m - 1, by omega⟩
  have e : (c :: r).take (m + 1) ++ x = c :: (r.take m ++ x) := rfl
  have eW : kindB c = 1 → (c :: (r.take m ++ x)).takeWhile isW = (c :: r).takeWhile isW := fun h => by
    rw [endL_cons, if_pos h] at hm
    exact takeWhile_app isW (c :: r) (m + 1) x hm (fun d x' q => (hx d x' q).1)
  have eD : kindB c = 2 → (c :: (r.take m ++ x)).takeWhile isDg = (c :: r).takeWhile isDg := fun h => by
    rw [endL_cons, if_neg (by omega), if_pos h] at hm
    exact takeWhile_app isDg (c :: r) (m + 1) x hm (fun d x' q => (hx d x' q).2)
  rw [e]
  constructor
  · rw [tokAt_cons, tokAt_cons]
    by_cases h1 : kindB c = 1
    · rw [if_pos h1, if_pos h1, eW h1]
    · rw [if_neg h1, if_neg h1]
      by_cases h2 : kindB c = 2
      · rw [if_pos h2, if_pos h2, eD h2]
      · rw [if_neg h2, if_neg h2]
  · rw [endL_cons, endL_cons]
    by_cases h1 : kindB c = 1
    · rw [if_pos h1, if_pos h1, eW h1]
    · rw [if_neg h1, if_neg h1]
      by_cases h2 : kindB c = 2
      · rw [if_pos h2, if_pos h2, eD h2]
      · rw [if_neg h2, if_neg h2]

def Tok.shift (d : Nat) (x : Tok) : Tok := ⟨x.k, x.t, x.n, x.at_ + d⟩

def shiftE (d : Nat) : Except (Int × Nat) (List Tok) → Except (Int × Nat) (List Tok)
  | .ok l => .ok (l.map (Tok.shift d))
  | .error e => .error (e.1, e.2 + d)

theorem lexS_shift (d : Nat) : ∀ (f : Nat) (r : List UInt8) (a cnt : Nat), r.length < f → lexS f r (a + d) cnt = shiftE d (lexS f r a cnt) := by
  intro f
  induction f with
  | zero => intro r a cnt h; omega
  | succ f ih =>
    intro r a cnt h
    cases r with
    | nil => rfl
    | cons c r =>
      simp only [List.length_cons] at h
      simp only [lexS]
      by_cases h4 : kindB c = 4
      · rw [if_pos h4, if_pos h4, ← ih r (a + 1) cnt (by omega)]; congr 1; omega
      · rw [if_neg h4, if_neg h4]
        by_cases h5 : kindB c = 5
        · have hc : isC c = true := by unfold isC; rw [kindB_5 h5]; rfl
          rw [if_pos h5, if_pos h5, ← ih _ (a + ((c :: r).takeWhile isC).length) cnt (by simp [List.takeWhile_cons, hc]; omega)]
          congr 1; omega
        · rw [if_neg h5, if_neg h5]
          by_cases h2 : cnt = 2000
          · rw [if_pos h2, if_pos h2]; rfl
          · rw [if_neg h2, if_neg h2]
            by_cases h0 : (tokAt (c :: r)).e = 0
            · have hp := raw_pos h0
              rw [if_pos h0, if_pos h0]
              have e := ih ((c :: r).drop (tokAt (c :: r)).raw.length) (a + (tokAt (c :: r)).raw.length) (cnt + 1) (by simp; omega)
              rw [show a + d + (tokAt (c :: r)).raw.length = a + (tokAt (c :: r)).raw.length + d by omega, e]
              cases lexS f ((c :: r).drop (tokAt (c :: r)).raw.length) (a + (tokAt (c :: r)).raw.length) (cnt + 1) with
              | ok l => rfl
              | error e => rfl
            · rw [if_neg h0, if_neg h0]; rfl

end Go.Ev
