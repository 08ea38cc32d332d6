/- What a lexer of words, numbers and signs answers, in plain lists of bytes. -/
import Derived.Test.YtgkjmdbjncnlpaaDoorEv1
import Derived.Test.YtgkjmdbjncnlpaaDoorEvZ
import Derived.Lib.AtoiAllCases
namespace Go.Ev
open Go.Proofs
set_option linter.unusedVariables false
set_option linter.unusedSimpArgs false

def kindI (b : Int) : Int := if 97 ≤ b ∧ b ≤ 122 then 1 else if 48 ≤ b ∧ b ≤ 57 then 2 else if b = 59 ∨ b = 123 ∨ b = 125 then 3 else if b = 32 ∨ b = 9 ∨ b = 10 then 4 else if b = 35 then 5 else 0
def kindB (c : UInt8) : Int := kindI (c.toNat : Int)
def isW (c : UInt8) : Bool := kindB c == 1 || kindB c == 2 || ((c.toNat : Int) == 95)
def isDg (c : UInt8) : Bool := kindB c == 2
def isC (c : UInt8) : Bool := (c.toNat : Int) != 10

structure Tk where
  k : Int
  t : List UInt8
  n : Int
  raw : List UInt8
  e : Int

/-- The kind, the number and the error of a text of digits. -/
def numT (t : List UInt8) : Int × Int × Int :=
  if 1 < t.length ∧ (t.head?.map fun c => (c.toNat : Int)) = some 48 then (0, 0, 7) else
  match Lib.atoiAll t with
  | .ok v => if v > 1000000 then (0, 0, 3) else (2, v, 0)
  | _ => (0, 0, 3)

def tokAt : List UInt8 → Tk
  | [] => ⟨0, [], 0, [], 7⟩
  | c :: r =>
    if kindB c = 1 then (if 12 < ((c :: r).takeWhile isW).length then ⟨0, [], 0, [], 3⟩ else ⟨1, (c :: r).takeWhile isW, 0, (c :: r).takeWhile isW, 0⟩)
    else if kindB c = 2 then ⟨(numT ((c :: r).takeWhile isDg)).1, [], (numT ((c :: r).takeWhile isDg)).2.1, (c :: r).takeWhile isDg, (numT ((c :: r).takeWhile isDg)).2.2⟩
    else if kindB c = 3 then ⟨3, [c], 0, [c], 0⟩ else ⟨0, [], 0, [], 7⟩

structure Tok where
  k : Int
  t : List UInt8
  n : Int
  at_ : Nat

def Tok.cells (x : Tok) : List D := [.int .i64 x.k, .str x.t, .int .i64 x.n, .int .i64 x.at_]
def toksD (l : List Tok) : List D := l.flatMap Tok.cells

/-- The tokens of a text, or the error and where it is. -/
def lexS : Nat → List UInt8 → Nat → Nat → Except (Int × Nat) (List Tok)
  | 0, _, _, _ => .error (0, 0)
  | _ + 1, [], _, _ => .ok []
  | f + 1, c :: r, at_, cnt =>
    if kindB c = 4 then lexS f r (at_ + 1) cnt
    else if kindB c = 5 then lexS f ((c :: r).drop ((c :: r).takeWhile isC).length) (at_ + ((c :: r).takeWhile isC).length) cnt
    else if cnt = 2000 then .error (2, at_)
    else if (tokAt (c :: r)).e = 0 then
      match lexS f ((c :: r).drop (tokAt (c :: r)).raw.length) (at_ + (tokAt (c :: r)).raw.length) (cnt + 1) with
      | .ok l => .ok (⟨(tokAt (c :: r)).k, (tokAt (c :: r)).t, (tokAt (c :: r)).n, at_⟩ :: l)
      | .error e => .error e
    else .error ((tokAt (c :: r)).e, at_)

theorem takeWhile_le (p : UInt8 → Bool) : ∀ l : List UInt8, (l.takeWhile p).length ≤ l.length
  | [] => by simp
  | c :: l => by
    have := takeWhile_le p l
    simp only [List.takeWhile_cons]
    split <;> simp <;> omega

theorem take_takeWhile (p : UInt8 → Bool) : ∀ l : List UInt8, l.take (l.takeWhile p).length = l.takeWhile p
  | [] => by simp
  | c :: l => by
    have := take_takeWhile p l
    simp only [List.takeWhile_cons]
    split <;> simp [this]

/-- A loop over bytes that goes on while they are of one kind. -/
theorem run_gen {ρ : Type} (p : UInt8 → Bool) (s : List UInt8) (L : Nat → Int → Option ρ) (k0 : Int → Option ρ)
    (hL : ∀ (m i : Nat), i ≤ s.length → L (m + 1) i = match s[i]? with | some c => if p c then L m ((i + 1 : Nat) : Int) else k0 i | none => k0 i) :
    ∀ (r pre : List UInt8) (f : Nat), s = pre ++ r → r.length < f → L f pre.length = k0 ((pre.length + (r.takeWhile p).length : Nat) : Int)
  | [], pre, 0, _, h => by simp at h
  | [], pre, f + 1, hs, _ => by
    subst hs
    rw [hL f pre.length (by simp)]
    simp
  | c :: r, pre, 0, _, h => by simp at h
  | c :: r, pre, f + 1, hs, h => by
    have ih := run_gen p s L k0 hL r (pre ++ [c]) f (by simp [hs]) (by simp at h; omega)
    have hg : s[pre.length]? = some c := by subst hs; simp
    rw [hL f pre.length (by subst hs; simp), hg]
    simp only [List.takeWhile_cons]
    simp only [List.length_append, List.length_cons, List.length_nil] at ih
    cases hp : p c with
    | true =>
      show L f ((pre.length + 1 : Nat) : Int) = k0 ((pre.length + (c :: r.takeWhile p).length : Nat) : Int)
      rw [show pre.length + 1 = pre.length + (0 + 1) from rfl, ih, show pre.length + (0 + 1) + (r.takeWhile p).length = pre.length + (c :: r.takeWhile p).length by simp; omega]
    | false => simp

/-! ### Numbers -/
def valD (acc : Nat) : List UInt8 → Nat
  | [] => acc
  | c :: r => valD (acc * 10 + (c.toNat - 48)) r

theorem valD_ge (l : List UInt8) : ∀ (acc : Nat), acc ≤ valD acc l := by
  induction l with
  | nil => intro acc; exact Nat.le_refl _
  | cons c r ih =>
    intro acc
    have h := ih (acc * 10 + (c.toNat - 48))
    generalize hx : c.toNat - 48 = x at h
    show acc ≤ valD (acc * 10 + (c.toNat - 48)) r
    rw [hx]
    omega

theorem kindI_2 {b : Int} : kindI b = 2 ↔ 48 ≤ b ∧ b ≤ 57 := by
  unfold kindI
  constructor
  · intro h
    split at h
    · omega
    · split at h
      · assumption
      · repeat (split at h <;> try omega)
  · intro h
    rw [if_neg (by omega), if_pos h]

theorem kindI_1 {b : Int} : kindI b = 1 ↔ 97 ≤ b ∧ b ≤ 122 := by
  unfold kindI
  constructor
  · intro h
    split at h
    · assumption
    · repeat (split at h <;> try omega)
  · intro h
    rw [if_pos h]

theorem isDg_iff {c : UInt8} : isDg c = true ↔ 48 ≤ c.toNat ∧ c.toNat ≤ 57 := by
  unfold isDg kindB
  rw [beq_iff_eq, kindI_2]
  omega

theorem parse_ge (l : List UInt8) : ∀ (a u : Nat), Lib.parseUint10 a l = .ok u → a ≤ u := by
  induction l with
  | nil => intro a u h; simp only [Lib.parseUint10] at h; injection h with h; omega
  | cons c l ih =>
    intro a u h
    simp only [Lib.parseUint10] at h
    split at h
    · split at h
      · cases h
      · split at h
        · cases h
        · have := ih _ _ h
          generalize c.toNat - 48 = x at this
          omega
    · cases h

theorem parse_ends (l : List UInt8) : ∀ (a : Nat), (∀ c ∈ l, isDg c = true) → Lib.parseUint10 a l = .range ∨ ∃ u, Lib.parseUint10 a l = .ok u := by
  induction l with
  | nil => intro a _; exact .inr ⟨a, rfl⟩
  | cons c l ih =>
    intro a hd
    have hc := isDg_iff.1 (hd c (by simp))
    simp only [Lib.parseUint10]
    rw [if_pos (by omega)]
    split
    · exact .inl rfl
    · split
      · exact .inl rfl
      · exact ih _ (fun x hx => hd x (by simp [hx]))

theorem parse_digits (l : List UInt8) : ∀ (acc : Nat), (∀ c ∈ l, isDg c = true) → acc ≤ 1844674407370955160 →
    (valD acc l ≤ 1000000 → Lib.parseUint10 acc l = .ok (valD acc l)) ∧ (1000000 < valD acc l → Lib.parseUint10 acc l = .range ∨ ∃ v, 1000000 < v ∧ Lib.parseUint10 acc l = .ok v) := by
  induction l with
  | nil =>
    intro acc _ _
    exact ⟨fun _ => rfl, fun h => .inr ⟨acc, h, rfl⟩⟩
  | cons c r ih =>
    intro acc hd ha
    have hc := isDg_iff.1 (hd c (by simp))
    have hr : ∀ c ∈ r, isDg c = true := fun x hx => hd x (by simp [hx])
    have hge := valD_ge r (acc * 10 + (c.toNat - 48))
    have hx : c.toNat - 48 ≤ 9 := by omega
    have ihx := ih (acc * 10 + (c.toNat - 48)) hr
    have hps := parse_ends r (acc * 10 + (c.toNat - 48)) hr
    have hpg := parse_ge r (acc * 10 + (c.toNat - 48))
    rw [show valD acc (c :: r) = valD (acc * 10 + (c.toNat - 48)) r from rfl]
    simp only [Lib.parseUint10]
    rw [if_pos hc, if_neg (by omega)]
    generalize c.toNat - 48 = x at *
    by_cases hb : acc * 10 + x ≤ 1844674407370955160
    · rw [if_neg (by omega)]
      exact ihx hb
    · refine ⟨fun h => by omega, fun _ => ?_⟩
      split
      · exact .inl rfl
      · rcases hps with hp | ⟨v, hp⟩
        · exact .inl hp
        · have := hpg v hp
          exact .inr ⟨v, by omega, hp⟩

theorem atoi_digits {l : List UInt8} (hd : ∀ c ∈ l, isDg c = true) (h0 : l ≠ []) :
    (valD 0 l ≤ 1000000 → Lib.atoiAll l = .ok (valD 0 l : Int)) ∧ (1000000 < valD 0 l → Lib.atoiAll l = .range ∨ ∃ v : Int, 1000000 < v ∧ Lib.atoiAll l = .ok v) := by
  have hp := parse_digits l 0 hd (by omega)
  match l, h0 with
  | c :: r, _ =>
    have hc := isDg_iff.1 (hd c (by simp))
    have e3 : Lib.atoiAll (c :: r) = Lib.signless (Lib.parseUint10 0 (c :: r)) := by
      rw [Lib.atoiAll_plain c r (by omega) (by omega), show Lib.parseMag (c :: r) = Lib.parseUint10 0 (c :: r) from if_neg (by simp)]
    have e4 : ∀ u : Nat, Lib.signless (.ok u) = if 9223372036854775808 ≤ u then .range else .ok (u : Int) := fun _ => rfl
    rw [e3]
    constructor
    · intro h
      rw [hp.1 h, e4, if_neg (by omega)]
    · intro h
      rcases hp.2 h with h | ⟨v, hv, h⟩
      · rw [h]; exact .inl rfl
      · rw [h, e4]
        split
        · exact .inl rfl
        · exact .inr ⟨v, by omega, rfl⟩

theorem atoi_ends {l : List UInt8} (hd : ∀ c ∈ l, isDg c = true) (h0 : l ≠ []) : Lib.atoiAll l = .range ∨ ∃ v : Int, Lib.atoiAll l = .ok v := by
  have h := atoi_digits hd h0
  by_cases hv : 1000000 < valD 0 l
  · rcases h.2 hv with h | ⟨v, _, h⟩
    · exact .inl h
    · exact .inr ⟨v, h⟩
  · exact .inr ⟨_, h.1 (by omega)⟩

theorem takeWhile_all (p : UInt8 → Bool) : ∀ (l : List UInt8), ∀ c ∈ l.takeWhile p, p c = true
  | [], c, h => by simp at h
  | x :: l, c, h => by
    have ih := takeWhile_all p l c
    simp only [List.takeWhile_cons] at h
    split at h
    · rcases List.mem_cons.1 h with rfl | h
      · assumption
      · exact ih h
    · simp at h

theorem numT_digits {l : List UInt8} (hd : ∀ c ∈ l, isDg c = true) (h0 : l ≠ []) (hz : ¬ (1 < l.length ∧ (l.head?.map fun c => (c.toNat : Int)) = some 48)) :
    numT l = if 1000000 < valD 0 l then (0, 0, 3) else (2, (valD 0 l : Int), 0) := by
  unfold numT
  rw [if_neg hz]
  have h := atoi_digits hd h0
  by_cases hv : 1000000 < valD 0 l
  · rw [if_pos hv]
    rcases h.2 hv with h | ⟨v, hv, h⟩
    · rw [h]
    · rw [h]; simp only []; rw [if_pos (by omega)]
  · rw [if_neg hv, h.1 (by omega)]
    simp only []
    rw [if_neg (by omega)]

theorem take_len (p : UInt8 → Bool) (l : List UInt8) : l.takeWhile p = l.take (l.takeWhile p).length := (take_takeWhile p l).symm

theorem tokAt_cons (c : UInt8) (r : List UInt8) : tokAt (c :: r) =
    if kindB c = 1 then (if 12 < ((c :: r).takeWhile isW).length then ⟨0, [], 0, [], 3⟩ else ⟨1, (c :: r).takeWhile isW, 0, (c :: r).takeWhile isW, 0⟩)
    else if kindB c = 2 then ⟨(numT ((c :: r).takeWhile isDg)).1, [], (numT ((c :: r).takeWhile isDg)).2.1, (c :: r).takeWhile isDg, (numT ((c :: r).takeWhile isDg)).2.2⟩
    else if kindB c = 3 then ⟨3, [c], 0, [c], 0⟩ else ⟨0, [], 0, [], 7⟩ := rfl

theorem raw_pre : ∀ l : List UInt8, (tokAt l).raw = l.take (tokAt l).raw.length
  | [] => rfl
  | c :: r => by
    rw [tokAt_cons]
    split
    · split
      · rfl
      · exact take_len isW (c :: r)
    · split
      · exact take_len isDg (c :: r)
      · split
        · rfl
        · rfl

theorem raw_le (l : List UInt8) : (tokAt l).raw.length ≤ l.length := by
  have h := raw_pre l
  have h2 : (tokAt l).raw.length = (l.take (tokAt l).raw.length).length := by rw [← h]
  rw [List.length_take] at h2
  omega

theorem raw_pos {c : UInt8} {r : List UInt8} (h : (tokAt (c :: r)).e = 0) : 1 ≤ (tokAt (c :: r)).raw.length := by
  rw [tokAt_cons] at h ⊢
  by_cases h1 : kindB c = 1
  · rw [if_pos h1] at h ⊢
    have hw : isW c = true := by unfold isW; rw [h1]; rfl
    by_cases h2 : 12 < ((c :: r).takeWhile isW).length
    · rw [if_pos h2] at h; cases h
    · rw [if_neg h2]
      show 1 ≤ ((c :: r).takeWhile isW).length
      simp [List.takeWhile_cons, hw]
  · rw [if_neg h1] at h ⊢
    by_cases h2 : kindB c = 2
    · rw [if_pos h2]
      have hw : isDg c = true := by unfold isDg; rw [h2]; rfl
      show 1 ≤ ((c :: r).takeWhile isDg).length
      simp [List.takeWhile_cons, hw]
    · rw [if_neg h2] at h ⊢
      by_cases h3 : kindB c = 3
      · rw [if_pos h3]; exact Nat.le_refl 1
      · rw [if_neg h3] at h; cases h

theorem app_split (pre l : List UInt8) (k : Nat) : pre ++ l = (pre ++ l.take k) ++ l.drop k := by rw [List.append_assoc, List.take_append_drop]

end Go.Ev
