/- What the meter's functions answer, in plain numbers. -/
import Derived.Test.YtgkjmdbjncnlpaaKb
namespace Go.Proofs.Ytgkjmdbjncnlpaa
open Go.Ev
set_option linter.unusedVariables false
set_option linter.unusedSimpArgs false
set_option maxRecDepth 100000

abbrev M (x y : Int) (z : Bool) : D := .agg [.int .i64 x, .int .i64 y, .bool z]

/-- A meter is valid. -/
def okM (x y : Int) : Bool := decide (0 ≤ x) && decide (x ≤ 1000000) && decide (-1000000000000000 ≤ y) && decide (y ≤ 1000000000000000)

theorem F19_one (m : Nat) (lo up v : Int) (ex : Bool) : F19 (m + 3) [.int .i64 lo, .int .i64 up, .lst 1 1 [.int .i64 v] ex] = some (.bool (decide (lo ≤ v) && decide (v ≤ up))) := by
  have w1 : IntKind.i64.wrap 1 = 1 := by kernel_rfl
  by_cases h1 : v < lo
  · have h1' : ¬ lo ≤ v := by omega
    simp [F19, S19_1, L19_3, S19_2, S19_4, S19_5, ass, gC, gI_mk, h1, h1']
  · have h1' : lo ≤ v := by omega
    by_cases h2 : v > up
    · have h2' : ¬ v ≤ up := by omega
      simp [F19, S19_1, L19_3, S19_2, S19_4, S19_5, ass, gC, gI_mk, h1, h1', h2, h2']
    · have h2' : v ≤ up := by omega
      simp [F19, S19_1, L19_3, S19_2, S19_4, S19_5, ass, gC, gI_mk, h1, h1', h2, h2', w1]

theorem F18_eq (m : Nat) (x y : Int) (z : Bool) : F18 (m + 3) [M x y z] = some (.bool (okM x y)) := by
  unfold F18 S18_1
  simp only [F19_one, bind_mk, gB_mk]
  by_cases h : (decide ((0 : Int) ≤ x) && decide (x ≤ 1000000)) = true
  · rw [h]; simp only [cond_t]; unfold okM; rw [h]; simp
  · simp only [Bool.not_eq_true] at h
    rw [h]; simp only [cond_f]; unfold okM; rw [h]; simp

theorem F22_eq (n : Nat) (x y : Int) (z : Bool) : F22 n [M x y z] = some (.bool (okM x y)) := by
  unfold F22 S22_1 okM
  by_cases h1 : 0 ≤ x <;> by_cases h2 : x ≤ 1000000 <;> by_cases h3 : -1000000000000000 ≤ y <;> by_cases h4 : y ≤ 1000000000000000 <;> simp [h1, h2, h3, h4]

theorem okM_iff {x y : Int} : okM x y = true ↔ 0 ≤ x ∧ x ≤ 1000000 ∧ -1000000000000000 ≤ y ∧ y ≤ 1000000000000000 := by
  simp [okM, and_assoc]

theorem F16_eq (n : Nat) (x y : Int) (z : Bool) (k : Nat) (c : List D) (ex : Bool) :
    F16 n [M x y z, .lst 2 k c ex] = some (.bool (okM x y && decide (y > -500000000000000) && decide (y < 500000000000000) && decide ((k : Int) ≤ 500))) := by
  unfold F16 S16_1
  simp only [F22_eq, bind_mk, gB_mk]
  cases okM x y <;> by_cases h1 : y > -500000000000000 <;> by_cases h2 : y < 500000000000000 <;> simp [h1, h2]

/-- Up, or down. -/
def turn (z : Bool) (y e : Int) : Int := if z then y - e else y + e

theorem F10_ok (m : Nat) {x y : Int} {z : Bool} {a p : Int} (h : okM x y = true) (ha : 0 ≤ a) (ha' : a ≤ 80) (hp : 0 ≤ p) (hp' : p ≤ 3) (h2 : okM x (turn z y (2300 * a * p)) = true) :
    F10 (m + 3) [M x y z, .int .i64 a, .int .i64 p] = some (.tup [M x (turn z y (2300 * a * p)) z, .int .i64 0]) := by
  have hh := okM_iff.1 h
  have hb : 0 ≤ 2300 * a * p ∧ 2300 * a * p ≤ 552000 := by
    have h1 : 0 ≤ 2300 * a := by omega
    have h3 : 2300 * a ≤ 184000 := by omega
    exact ⟨Int.mul_nonneg h1 hp, Int.le_trans (Int.mul_le_mul h3 hp' hp (by omega)) (by omega)⟩
  have w1 : IntKind.i64.wrap (2300 * a) = 2300 * a := wrap64_in (by omega) (by omega)
  have w2 : IntKind.i64.wrap (2300 * a * p) = 2300 * a * p := wrap64_in (by omega) (by omega)
  have w3 : IntKind.i64.wrap (y + 2300 * a * p) = y + 2300 * a * p := wrap64_in (by omega) (by omega)
  have w4 : IntKind.i64.wrap (y - 2300 * a * p) = y - 2300 * a * p := wrap64_in (by omega) (by omega)
  unfold F10 S10_1
  simp only [F19_one, F18_eq, bind_mk, gB_mk, h, w1, w2, w3, w4]
  have e1 : (decide ((0 : Int) ≤ a) && decide (a ≤ 80)) = true := by simp [ha, ha']
  have e2 : (decide ((0 : Int) ≤ p) && decide (p ≤ 3)) = true := by simp [hp, hp']
  rw [e1, e2]
  simp only [Bool.not_true, cond_f]
  cases z with
  | true => simp only [turn, if_true] at h2 ⊢; rw [h2]; rfl
  | false => simp only [turn, Bool.false_eq_true, if_false] at h2 ⊢; rw [h2]; rfl

/-- Pairs of bytes, as cells. -/
def cells2 (l : List (Int × Int)) : List D := l.flatMap fun p => [.int .u8 p.1, .int .u8 p.2]

def okP (l : List (Int × Int)) : Prop := ∀ p ∈ l, 0 ≤ p.1 ∧ p.1 ≤ 255 ∧ 0 ≤ p.2 ∧ p.2 ≤ 255

def sumP : List (Int × Int) → Int
  | [] => 0
  | p :: l => (p.1 % 81) * (p.2 % 4) + sumP l

theorem sumP_le : ∀ (l : List (Int × Int)), 0 ≤ sumP l ∧ sumP l ≤ 240 * l.length
  | [] => by simp [sumP]
  | p :: l => by
    have := sumP_le l
    have h1 : 0 ≤ p.1 % 81 ∧ p.1 % 81 ≤ 80 := by omega
    have h2 : 0 ≤ p.2 % 4 ∧ p.2 % 4 ≤ 3 := by omega
    have h3 : 0 ≤ (p.1 % 81) * (p.2 % 4) := Int.mul_nonneg h1.1 h2.1
    have h4 : (p.1 % 81) * (p.2 % 4) ≤ 80 * 3 := Int.mul_le_mul h1.2 h2.2 h2.1 (by omega)
    simp only [sumP, List.length_cons]
    omega

theorem drop_cells2 : ∀ (l : List (Int × Int)) (i : Nat), (cells2 l).drop (i * 2) = cells2 (l.drop i)
  | [], i => by simp [cells2]
  | p :: l, 0 => by simp
  | p :: l, i + 1 => by
    have := drop_cells2 l i
    rw [show (i + 1) * 2 = i * 2 + 1 + 1 by omega]
    simpa [cells2] using this

theorem loop17 (m : Nat) (x y : Int) (z : Bool) (ex : Bool) (l : List (Int × Int)) (k0 : Int → Int → Int → Bool → Option D) (k1 : Int → Int → Int → Int → Bool → Option D) : ∀ (r pre : List (Int × Int)) (f : Nat) (s : Int),
    l = pre ++ r → okP r → r.length < f → 0 ≤ x → x ≤ 1000000 → 0 ≤ s → s + sumP r ≤ 200000 → -900000000000000 ≤ y → y ≤ 900000000000000 → l.length ≤ 1000 →
    L17_3 (m + 3) f s l.length (cells2 l) ex (l.length : Int) (pre.length : Int) x (turn z y (2300 * s)) z k0 k1 = k1 (s + sumP r) l.length x (turn z y (2300 * (s + sumP r))) z
  | [], pre, f, s, hl, hok, hf, hx, hx', hs, hs', hy, hy', hlen => by
    obtain ⟨f, rfl⟩ : ∃ g, f = g + 1 := ⟨f - 1, by simp at hf; omega⟩
    have hpl : pre.length = l.length := by rw [hl]; simp
    simp [L17_3, S17_2, sumP, hpl]
  | p :: r, pre, f, s, hl, hok, hf, hx, hx', hs, hs', hy, hy', hlen => by
    obtain ⟨f, rfl⟩ : ∃ g, f = g + 1 := ⟨f - 1, by simp at hf; omega⟩
    have hp := hok p (List.mem_cons_self ..)
    simp only [List.length_cons] at hf
    have hll : l.length = pre.length + (r.length + 1) := by rw [hl]; simp
    have hd : (cells2 l).drop (Int.toNat (pre.length : Int) * 2) = .int .u8 p.1 :: .int .u8 p.2 :: cells2 r := by
      rw [Int.toNat_natCast, drop_cells2, hl, List.drop_left]; rfl
    have hlt : (pre.length : Int) < l.length := by omega
    have h0 : 0 ≤ (pre.length : Int) := by omega
    have q1 : IntKind.i64.wrap p.1 = p.1 := wrap64_in (by omega) (by omega)
    have q2 : IntKind.i64.wrap p.2 = p.2 := wrap64_in (by omega) (by omega)
    have q3 : Int.tmod p.1 81 = p.1 % 81 := Int.tmod_eq_emod_of_nonneg hp.1
    have q4 : Int.tmod p.2 4 = p.2 % 4 := Int.tmod_eq_emod_of_nonneg hp.2.2.1
    have b1 : 0 ≤ p.1 % 81 ∧ p.1 % 81 ≤ 80 := by omega
    have b2 : 0 ≤ p.2 % 4 ∧ p.2 % 4 ≤ 3 := by omega
    have b3 : 0 ≤ (p.1 % 81) * (p.2 % 4) := Int.mul_nonneg b1.1 b2.1
    have b4 : (p.1 % 81) * (p.2 % 4) ≤ 80 * 3 := Int.mul_le_mul b1.2 b2.2 b2.1 (by omega)
    have hsr := sumP_le r
    simp only [sumP] at hs' ⊢
    have q5 : IntKind.i64.wrap ((p.1 % 81) * (p.2 % 4)) = (p.1 % 81) * (p.2 % 4) := wrap64_in (by omega) (by omega)
    have q6 : IntKind.i64.wrap (s + (p.1 % 81) * (p.2 % 4)) = s + (p.1 % 81) * (p.2 % 4) := wrap64_in (by omega) (by omega)
    have q7 : IntKind.i64.wrap ((pre.length : Int) + 1) = ((pre ++ [p]).length : Int) := by
      rw [wrap64_in (by omega) (by omega)]; simp
    have hm : 2300 * (p.1 % 81) * (p.2 % 4) = 2300 * ((p.1 % 81) * (p.2 % 4)) := Int.mul_assoc ..
    have ht : turn z (turn z y (2300 * s)) (2300 * (p.1 % 81) * (p.2 % 4)) = turn z y (2300 * (s + (p.1 % 81) * (p.2 % 4))) := by
      rw [hm]; unfold turn; cases z <;> simp <;> omega
    have c1 : okM x (turn z y (2300 * s)) = true := by rw [okM_iff]; unfold turn; cases z <;> simp <;> omega
    have c2 : okM x (turn z y (2300 * (s + (p.1 % 81) * (p.2 % 4)))) = true := by rw [okM_iff]; unfold turn; cases z <;> simp <;> omega
    have hF := F10_ok m (x := x) (y := turn z y (2300 * s)) (z := z) c1 b1.1 b1.2 b2.1 b2.2 (by rw [ht]; exact c2)
    rw [ht] at hF
    have ih := loop17 m x y z ex l k0 k1 r (pre ++ [p]) f (s + (p.1 % 81) * (p.2 % 4)) (by rw [hl]; simp) (fun q hq => hok q (List.mem_cons_of_mem _ hq)) (by omega) hx hx' (by omega) (by omega) hy hy' hlen
    unfold L17_3 S17_2
    rw [decide_eq_true hlt, cond_t, ass_of (by simp only [decide_eq_true h0, decide_eq_true hlt, Bool.and_self]), hd]
    simp only [gC_mk, gI_mk, q1, q2, q3, q4, hF, bind_mk, gT_mk, gA_mk, gB_mk, gE_mk, q5, q6, q7]
    rw [show ((0 : Int) != 0) = false from rfl, cond_f, ih, ← Int.add_assoc]

/-- After ticks. -/
theorem F17_eq (m : Nat) {x y : Int} {z ex : Bool} {l : List (Int × Int)} (hok : okP l) (hl : l.length ≤ 500) (hm : 1000 ≤ m) (hx : 0 ≤ x) (hx' : x ≤ 1000000) (hy : -900000000000000 ≤ y) (hy' : y ≤ 900000000000000) :
    F17 (m + 3) [M x y z, .lst 2 l.length (cells2 l) ex] = some (.tup [M x (turn z y (2300 * sumP l)) z, .int .i64 (sumP l), .bool true]) := by
  have hs := sumP_le l
  unfold F17 S17_1
  have := loop17 m x y z ex l (fun x1 x2 x3 x4 => S17_4 (m + 3) x1 x2 x3 x4 (some (.tup [M x2 x3 x4, .int .i64 x1, .bool false])))
    (fun x5 x6 x7 x8 x9 => S17_5 (m + 3) x5 l.length (cells2 l) ex (l.length : Int) x6 x7 x8 x9 (some (.tup [M x7 x8 x9, .int .i64 x5, .bool true]))) l [] (m + 3) 0 rfl hok (by omega) hx hx' (Int.le_refl 0) (by omega) hy hy' (by omega)
  have t0 : turn z y (2300 * 0) = y := by unfold turn; cases z <;> simp
  rw [t0, Int.zero_add] at this
  exact this

theorem F14_eq (m : Nat) (x y : Int) (z : Bool) (x' y' : Int) (z' : Bool) (h : okM x y = true) (h' : okM x' y' = true) :
    F14 (m + 3) [M x y z, M x' y' z'] = some (.tup [.int .i64 (if x ≠ x' then 0 else if y' < y then 0 else (y' - y) / 3600), .int .i64 (if x ≠ x' then 4 else if y' < y then 11 else 0)]) := by
  have hh := okM_iff.1 h
  have hh' := okM_iff.1 h'
  unfold F14 S14_1
  simp only [F18_eq, bind_mk, gB_mk, h, h', Bool.not_true, cond_f]
  by_cases e1 : x = x'
  · subst e1
    by_cases e2 : y' < y
    · simp [e2]
    · have w1 : IntKind.i64.wrap (y' - y) = y' - y := wrap64_in (by omega) (by omega)
      have w2 : Int.tdiv (y' - y) 3600 = (y' - y) / 3600 := Int.tdiv_eq_ediv_of_nonneg (by omega)
      have w3 : IntKind.i64.wrap ((y' - y) / 3600) = (y' - y) / 3600 := wrap64_in (by omega) (by omega)
      simp [e2, w1, w2, w3]
  · have e2 : (x != x') = true := by simpa using e1
    simp [e1, e2]

theorem head_ok (m : Nat) : F9 (m + 10) [] = some (.bool true) := by kernel_rfl

end Go.Proofs.Ytgkjmdbjncnlpaa
