/- The laws of the meter, in plain numbers. -/
import Derived.Test.YtgkjmdbjncnlpaaKm
namespace Go.Proofs.Ytgkjmdbjncnlpaa
open Go.Ev
set_option linter.unusedVariables false
set_option linter.unusedSimpArgs false
set_option maxRecDepth 100000

theorem head_N : F9 2000 [] = some (.bool true) := head_ok 1990

theorem F17_N {x y : Int} {z ex : Bool} {l : List (Int × Int)} (hok : okP l) (hl : l.length ≤ 500) (hx : 0 ≤ x) (hx' : x ≤ 1000000) (hy : -900000000000000 ≤ y) (hy' : y ≤ 900000000000000) :
    F17 2000 [M x y z, .lst 2 l.length (cells2 l) ex] = some (.tup [M x (turn z y (2300 * sumP l)) z, .int .i64 (sumP l), .bool true]) := F17_eq 1997 hok hl (by omega) hx hx' hy hy'

theorem F14_N (x y : Int) (z : Bool) (x' y' : Int) (z' : Bool) (h : okM x y = true) (h' : okM x' y' = true) :
    F14 2000 [M x y z, M x' y' z'] = some (.tup [.int .i64 (if x ≠ x' then 0 else if y' < y then 0 else (y' - y) / 3600), .int .i64 (if x ≠ x' then 4 else if y' < y then 11 else 0)]) := F14_eq 1997 x y z x' y' z' h h'

theorem F10_N {x y : Int} {z : Bool} {a p : Int} (h : okM x y = true) (ha : 0 ≤ a) (ha' : a ≤ 80) (hp : 0 ≤ p) (hp' : p ≤ 3) (h2 : okM x (turn z y (2300 * a * p)) = true) :
    F10 2000 [M x y z, .int .i64 a, .int .i64 p] = some (.tup [M x (turn z y (2300 * a * p)) z, .int .i64 0]) := F10_ok 1997 h ha ha' hp hp' h2

theorem F18_N (x y : Int) (z : Bool) : F18 2000 [M x y z] = some (.bool (okM x y)) := F18_eq 1997 x y z

def use (x y : Int) (k : Nat) : Bool := okM x y && decide (y > -500000000000000) && decide (y < 500000000000000) && decide ((k : Int) ≤ 500)

theorem use_iff {x y : Int} {k : Nat} : use x y k = true ↔ okM x y = true ∧ -500000000000000 < y ∧ y < 500000000000000 ∧ k ≤ 500 := by
  simp only [use, Bool.and_eq_true, decide_eq_true_eq]
  constructor
  · rintro ⟨⟨⟨h1, h2⟩, h3⟩, h4⟩; exact ⟨h1, h2, h3, by omega⟩
  · rintro ⟨h1, h2, h3, h4⟩; exact ⟨⟨⟨h1, h2⟩, h3⟩, by omega⟩

theorem F16_N (x y : Int) (z : Bool) (k : Nat) (c : List D) (ex : Bool) : F16 2000 [M x y z, .lst 2 k c ex] = some (.bool (use x y k)) := F16_eq 2000 x y z k c ex

theorem backwards (x y : Int) (z ex : Bool) (l : List (Int × Int)) (hok : okP l) : F5 2000 [M x y z, .lst 2 l.length (cells2 l) ex] = some (.bool true) := by
  unfold F5 S5_1
  simp only [head_N, F16_N, bind_mk, gB_mk]
  cases hu : use x y l.length with
  | false => rfl
  | true =>
    obtain ⟨h1, h2, h3, h4⟩ := use_iff.1 hu
    have hh := okM_iff.1 h1
    have hs := sumP_le l
    have h5 : okM x (turn true y (2300 * sumP l)) = true := by rw [okM_iff]; simp only [turn, if_true]; omega
    simp only [Bool.not_true, cond_f, F17_N hok h4 hh.1 hh.2.1 (show -900000000000000 ≤ y by omega) (show y ≤ 900000000000000 by omega), F14_N _ _ _ _ _ _ h1 h5, bind_mk, gB_mk, gT_mk, gC_mk, gA_mk, gI_mk, gE_mk]
    simp only [turn, if_true]
    by_cases h0 : sumP l = 0
    · simp [h0]
    · have q1 : y - 2300 * sumP l < y := by omega
      have q2 : 0 < sumP l := by omega
      simp [h0, q1, q2]

theorem swaps (x y : Int) (z : Bool) (se re : Int) (ex : Bool) (l : List (Int × Int)) (hok : okP l) : F7 2000 [M x y z, .int .i64 se, .int .i64 re, .lst 2 l.length (cells2 l) ex] = some (.bool true) := by
  have e12 : ∃ x1 y1 z1 e, F12 2000 [M x y z, .int .i64 se, .int .i64 re] = some (.tup [M x1 y1 z1, .int .i64 e]) ∧ (e = 0 → okM x y = true ∧ okM se re = true ∧ x ≠ se ∧ x1 = se ∧ y1 = re ∧ z1 = false) := by
    unfold F12 S12_1
    simp only [F18_N, bind_mk, gB_mk]
    cases h1 : okM x y with
    | false => exact ⟨_, _, _, _, rfl, by simp⟩
    | true =>
      cases h2 : okM se re with
      | false => exact ⟨_, _, _, _, rfl, by simp⟩
      | true =>
        by_cases h3 : x = se
        · exact ⟨0, 0, false, 5, by simp [h3], by simp⟩
        · have h4 : (x == se) = false := by simpa using h3
          exact ⟨se, re, false, 0, by simp [h4], by simp [h3]⟩
  obtain ⟨x1, y1, z1, e, he, hc⟩ := e12
  unfold F7 S7_1
  simp only [head_N, he, F16_N, bind_mk, gB_mk, gT_mk, gC_mk, gA_mk, gI_mk, gE_mk]
  by_cases h0 : e = 0
  · obtain ⟨g1, g2, g3, rfl, rfl, rfl⟩ := hc h0
    subst h0
    rw [show ((0 : Int) != 0) = false from rfl, cond_f]
    cases hu : use x1 y1 l.length with
    | false => rfl
    | true =>
      obtain ⟨h1, h2, h3, h4⟩ := use_iff.1 hu
      have hh := okM_iff.1 h1
      have hs := sumP_le l
      have h5 : okM x1 (turn false y1 (2300 * sumP l)) = true := by rw [okM_iff]; simp [turn]; omega
      simp only [Bool.not_true, cond_f, F17_N hok h4 hh.1 hh.2.1 (show -900000000000000 ≤ y1 by omega) (show y1 ≤ 900000000000000 by omega), F14_N _ _ _ _ _ _ g1 h5, F14_N _ _ _ _ _ _ h5 g1, F14_N _ _ _ _ _ _ h1 h5, bind_mk, gB_mk, gT_mk, gC_mk, gA_mk, gI_mk, gE_mk]
      have q1 : ¬ (turn false y1 (2300 * sumP l) < y1) := by simp [turn]; omega
      have g3' : ¬ x1 = x := fun q => g3 q.symm
      simp [g3, g3', q1]
  · have : (e != 0) = true := by simpa using h0
    rw [this]; rfl

theorem sumP_append : ∀ (a b : List (Int × Int)), sumP (a ++ b) = sumP a + sumP b
  | [], b => by simp [sumP]
  | p :: a, b => by simp only [List.cons_append, sumP, sumP_append a b]; omega

theorem take_cells2 : ∀ (l : List (Int × Int)) (i : Nat), (cells2 l).take (i * 2) = cells2 (l.take i)
  | [], i => by simp [cells2]
  | p :: l, 0 => by simp [cells2]
  | p :: l, i + 1 => by
    have := take_cells2 l i
    rw [show (i + 1) * 2 = i * 2 + 1 + 1 by omega]
    simpa [cells2] using this

theorem parts (x y : Int) (z ex : Bool) (l : List (Int × Int)) (c : Int) (hc : 0 ≤ c) (hc' : c ≤ 65535) (hok : okP l) : F6 2000 [M x y z, .lst 2 l.length (cells2 l) ex, .int .u16 c] = some (.bool true) := by
  unfold F6 S6_1
  simp only [head_N, F16_N, bind_mk, gB_mk]
  cases hu : use x y l.length with
  | false => rfl
  | true =>
    obtain ⟨h1, h2, h3, h4⟩ := use_iff.1 hu
    have hh := okM_iff.1 h1
    simp only [Bool.not_true, cond_f]
    by_cases h0 : l.length = 0
    · have : ((l.length : Int) == 0) = true := by simp [h0]
      rw [this]; rfl
    · have e0 : ((l.length : Int) == 0) = false := by simp [h0]
      have w0 : IntKind.i64.wrap c = c := wrap64_in (by omega) (by omega)
      have hk : ∃ k : Nat, k < l.length ∧ Int.tmod (IntKind.i64.wrap c) (l.length : Int) = k := by
        rw [w0, Int.tmod_eq_emod_of_nonneg hc]
        have q1 := Int.emod_nonneg c (show (l.length : Int) ≠ 0 by omega)
        have q2 := Int.emod_lt_of_pos c (show (0 : Int) < l.length by omega)
        exact ⟨(c % (l.length : Int)).toNat, by omega, by omega⟩
      obtain ⟨k, hk, hke⟩ := hk
      have a1 : (decide ((0 : Int) ≤ (k : Int)) && decide ((k : Int) ≤ (l.length : Int))) = true := by simp; omega
      have hlt : (l.take k).length = k := by simp; omega
      have hld : (l.drop k).length = l.length - k := by simp
      have okt : okP (l.take k) := fun p hp => hok p (List.mem_of_mem_take hp)
      have okd : okP (l.drop k) := fun p hp => hok p (List.mem_of_mem_drop hp)
      have s1 := sumP_le (l.take k)
      have s2 := sumP_le (l.drop k)
      have t1 := F17_N (x := x) (y := y) (z := false) (ex := ex && k == l.length) okt (by omega) hh.1 hh.2.1 (by omega) (by omega)
      rw [hlt] at t1
      have t2 := F17_N (x := x) (y := turn false y (2300 * sumP (l.take k))) (z := false) (ex := ex && l.length == l.length) okd (by omega) hh.1 hh.2.1 (by simp [turn]; omega) (by simp [turn]; omega)
      rw [hld] at t2
      have okA : okM x (turn false y (2300 * sumP (l.take k))) = true := by rw [okM_iff]; simp [turn]; omega
      have okB : okM x (turn false (turn false y (2300 * sumP (l.take k))) (2300 * sumP (l.drop k))) = true := by rw [okM_iff]; simp [turn]; omega
      simp only [e0, cond_f, hke, Bool.not_false, ass_mk, a1, Int.toNat_natCast, take_cells2, drop_cells2, t1, bind_mk, gB_mk, gT_mk, gC_mk, gA_mk, gI_mk, gE_mk]
      rw [show List.take (l.length - k) (l.drop k) = l.drop k from List.take_of_length_le (by simp), t2]
      simp only [bind_mk, gB_mk, gT_mk, gC_mk, gA_mk, gI_mk, gE_mk, F14_N _ _ _ _ _ _ h1 okA, F14_N _ _ _ _ _ _ okA okB, F14_N _ _ _ _ _ _ h1 okB]
      simp only [turn, Bool.false_eq_true, if_false, ne_eq, not_true_eq_false]
      generalize sumP (l.take k) = A at *
      generalize sumP (l.drop k) = B at *
      have q1 : ¬ (y + 2300 * A < y) := by omega
      have q2 : ¬ (y + 2300 * A + 2300 * B < y + 2300 * A) := by omega
      have q3 : ¬ (y + 2300 * A + 2300 * B < y) := by omega
      simp only [q1, q2, q3, if_false, show ((0 : Int) == 0) = true from rfl, cond_t]
      have w1 : IntKind.i64.wrap ((y + 2300 * A - y) / 3600 + (y + 2300 * A + 2300 * B - (y + 2300 * A)) / 3600) = (y + 2300 * A - y) / 3600 + (y + 2300 * A + 2300 * B - (y + 2300 * A)) / 3600 := wrap64_in (by omega) (by omega)
      have w2 : IntKind.i64.wrap ((y + 2300 * A - y) / 3600 + (y + 2300 * A + 2300 * B - (y + 2300 * A)) / 3600 + 1) = (y + 2300 * A - y) / 3600 + (y + 2300 * A + 2300 * B - (y + 2300 * A)) / 3600 + 1 := wrap64_in (by omega) (by omega)
      rw [w1, w2, decide_eq_true (by omega), cond_t, decide_eq_true (by omega)]

theorem loop8 (x y : Int) (u : Bool) (a p q : Int) (ha : 0 ≤ a) (ha' : a ≤ 80) (hp : 0 ≤ p) (hp' : p ≤ 3) (T : Nat) (hT : T ≤ 1080) (s0 r0 : Int) (hx : 0 ≤ x) (hx' : x ≤ 1000000) (hy : -500000000000000 ≤ y) (hy' : y ≤ 500000000000000)
    (k0 : Int → Int → Bool → Option D) (k1 : Int → Int → Int → Bool → Option D) : ∀ (r i f : Nat), i + r = T → r < f →
    L8_3 2000 f u a p q (T : Int) (i : Int) s0 r0 x (y + 2300 * a * p * i) false k0 k1 = k1 T x (y + 2300 * a * p * T) false
  | 0, i, f, hi, hf => by
    obtain ⟨f, rfl⟩ : ∃ g, f = g + 1 := ⟨f - 1, by omega⟩
    obtain rfl : i = T := by omega
    simp [L8_3, S8_2]
  | r + 1, i, f, hi, hf => by
    obtain ⟨f, rfl⟩ : ∃ g, f = g + 1 := ⟨f - 1, by omega⟩
    have hb : 0 ≤ 2300 * a * p ∧ 2300 * a * p ≤ 552000 := by
      have h1 : 0 ≤ 2300 * a := by omega
      have h3 : 2300 * a ≤ 184000 := by omega
      exact ⟨Int.mul_nonneg h1 hp, Int.le_trans (Int.mul_le_mul h3 hp' hp (by omega)) (by omega)⟩
    generalize hE : 2300 * a * p = E at *
    have hEi : ∀ j : Nat, j ≤ T → 0 ≤ E * j ∧ E * j ≤ 552000 * 1080 := fun j hj => ⟨Int.mul_nonneg hb.1 (by omega), Int.mul_le_mul hb.2 (by omega) (by omega) (by omega)⟩
    have b1 := hEi i (by omega)
    have b2 := hEi (i + 1) (by omega)
    have hs : E * ((i + 1 : Nat) : Int) = E * i + E := by rw [Int.natCast_add, Int.mul_add]; simp
    have c1 : okM x (y + E * i) = true := by rw [okM_iff]; omega
    have ht : turn false (y + E * i) (2300 * a * p) = y + E * ((i + 1 : Nat) : Int) := by rw [hE, hs]; simp [turn]; omega
    have c2 : okM x (turn false (y + E * i) (2300 * a * p)) = true := by rw [ht, okM_iff]; omega
    have hF := F10_N (z := false) c1 ha ha' hp hp' c2
    rw [ht] at hF
    have w1 : IntKind.i64.wrap ((i : Int) + 1) = ((i + 1 : Nat) : Int) := by rw [wrap64_in (by omega) (by omega)]; rfl
    have ih := loop8 x y u a p q ha ha' hp hp' T hT s0 r0 hx hx' hy hy' k0 k1 r (i + 1) f (by omega) (by omega)
    rw [hE] at ih
    unfold L8_3 S8_2
    rw [decide_eq_true (show (i : Int) < T by omega), cond_t]
    simp only [hF, bind_mk, gB_mk, gT_mk, gC_mk, gA_mk, gI_mk, gE_mk, w1, show ((0 : Int) != 0) = false from rfl, cond_f, ih]

theorem hours (x y : Int) (z : Bool) (a p h : Int) (ha : 0 ≤ a) (ha' : a ≤ 255) (hp : 0 ≤ p) (hp' : p ≤ 255) (hh : 0 ≤ h) (hh' : h ≤ 255) : F8 2000 [M x y z, .int .u8 a, .int .u8 p, .int .u8 h] = some (.bool true) := by
  unfold F8 S8_1
  have e16 := F16_N x y false 0 [] true
  simp only [head_N, e16, bind_mk, gB_mk]
  cases hu : use x y 0 with
  | false => rfl
  | true =>
    obtain ⟨h1, h2, h3, h4⟩ := use_iff.1 hu
    have hm := okM_iff.1 h1
    simp only [Bool.not_true, cond_f]
    have v1 : IntKind.i64.wrap a = a := wrap64_in (by omega) (by omega)
    have v2 : IntKind.i64.wrap p = p := wrap64_in (by omega) (by omega)
    have v3 : IntKind.i64.wrap h = h := wrap64_in (by omega) (by omega)
    rw [v1, v2, v3, Int.tmod_eq_emod_of_nonneg ha, Int.tmod_eq_emod_of_nonneg hp, Int.tmod_eq_emod_of_nonneg hh]
    have b1 : 0 ≤ a % 81 ∧ a % 81 ≤ 80 := by omega
    have b2 : 0 ≤ p % 4 ∧ p % 4 ≤ 3 := by omega
    have b3 : 0 ≤ h % 4 ∧ h % 4 ≤ 3 := by omega
    generalize a % 81 = A at *
    generalize p % 4 = B at *
    obtain ⟨C, hC⟩ : ∃ C : Nat, h % 4 = C := ⟨(h % 4).toNat, by omega⟩
    rw [hC] at b3 ⊢
    have v4 : IntKind.i64.wrap (360 * (C : Int)) = ((360 * C : Nat) : Int) := by rw [wrap64_in (by omega) (by omega)]; simp
    have hl := loop8 x y true A B (C : Int) b1.1 b1.2 b2.1 b2.2 (360 * C) (by omega) x y hm.1 hm.2.1 (by omega) (by omega)
      (fun x5 x6 x7 => S8_4 2000 x y x5 x6 x7 (some (.bool false))) (fun x8 x9 x10 x11 => S8_5 2000 true A B (C : Int) ((360 * C : Nat) : Int) x8 x y x9 x10 x11 (fun x12 => some (.bool x12))) (360 * C) 0 2000 (by omega) (by omega)
    rw [v4]
    simp only [Int.natCast_zero, Int.mul_zero, Int.add_zero] at hl
    refine hl.trans ?_
    unfold S8_5
    have m1 : 0 ≤ A * B := Int.mul_nonneg b1.1 b2.1
    have m2 : A * B ≤ 80 * 3 := Int.mul_le_mul b1.2 b2.2 b2.1 (by omega)
    have m3 : 2300 * A * B = 2300 * (A * B) := Int.mul_assoc ..
    have m4 : 0 ≤ A * B * C := Int.mul_nonneg m1 b3.1
    have m5 : A * B * C ≤ 240 * 3 := Int.mul_le_mul m2 b3.2 b3.1 (by omega)
    have m6 : 2300 * A * B * ((360 * C : Nat) : Int) = 828000 * (A * B * C) := by
      rw [m3, show ((360 * C : Nat) : Int) = 360 * (C : Int) by simp, show 2300 * (A * B) * (360 * (C : Int)) = (2300 * 360) * (A * B * C) by ac_rfl]; rfl
    have m7 : okM x (y + 828000 * (A * B * C)) = true := by rw [okM_iff]; omega
    have n1 : IntKind.i64.wrap (230 * A) = 230 * A := wrap64_in (by omega) (by omega)
    have n2 : IntKind.i64.wrap (230 * A * B) = 230 * A * B := by rw [Int.mul_assoc]; exact wrap64_in (by omega) (by omega)
    have n3 : IntKind.i64.wrap (230 * A * B * C) = 230 * (A * B * C) := by
      rw [show 230 * A * B * (C : Int) = 230 * (A * B * C) by ac_rfl]; exact wrap64_in (by omega) (by omega)
    rw [m6, F14_N x y false x _ false h1 m7]
    simp only [bind_mk, gB_mk, gT_mk, gC_mk, gA_mk, gI_mk, gE_mk, cond_t, ne_eq, not_true_eq_false, if_false, n1, n2, n3]
    have q1 : ¬ (y + 828000 * (A * B * C) < y) := by omega
    simp only [q1, if_false, show ((0 : Int) == 0) = true from rfl, cond_t]
    have q2 : (y + 828000 * (A * B * (C : Int)) - y) / 3600 = 230 * (A * B * (C : Int)) := by omega
    rw [q2, beq_self_eq_true]

/-! ### The arguments -/

def tyM : Ty := .st [.int .i64, .int .i64, .bool]
def tyP : Ty := .sl (.arr 2 (.int .u8))

theorem arg_M {H : Type} {d : DataW H} {x : D} (h : tyM.Arg d x) : ∃ a b c, x = M a b c := by
  obtain ⟨ds, h1, h2⟩ := h
  obtain ⟨els, cells, rfl, hs, rfl⟩ := h1
  obtain ⟨d1, dr1, c1, cr1, rfl, rfl, ⟨n1, rfl, rfl, w1⟩, d2, dr2, c2, cr2, rfl, rfl, ⟨n2, rfl, rfl, w2⟩, d3, dr3, c3, cr3, rfl, rfl, ⟨b3, rfl, rfl⟩, rfl, rfl⟩ := hs
  simp only [tyM, Ty.ag, if_true] at h2
  exact ⟨n1, n2, b3, by simpa [M] using h2⟩

theorem arg_P {H : Type} {d : DataW H} {x : D} (h : tyP.Arg d x) : ∃ (l : List (Int × Int)) (ex : Bool), okP l ∧ x = .lst 2 l.length (cells2 l) ex := by
  obtain ⟨ds, ⟨els, rest, cells, _, hall, _, rfl⟩, h2⟩ := h
  have key : ∀ (els : List (DataW H)) (cells : List (List D)), All2 (fun a b => Ty.Is (.arr 2 (.int .u8)) a b) els cells → ∃ l : List (Int × Int), okP l ∧ l.length = els.length ∧ cells.flatten = cells2 l := by
    intro els cells hall
    induction hall with
    | nil => exact ⟨[], fun p hp => by simp at hp, rfl, rfl⟩
    | cons a _ ih =>
      obtain ⟨l, h1, h2, h3⟩ := ih
      obtain ⟨els', cells', rfl, ha, hl, rfl⟩ := a
      match els', cells', ha with
      | _, _, .cons (a := e1) (b := k1) i1 (.cons (a := e2) (b := k2) i2 .nil) =>
        obtain ⟨n1, rfl, rfl, w1⟩ := i1
        obtain ⟨n2, rfl, rfl, w2⟩ := i2
        have := u8_wf w1
        have := u8_wf w2
        refine ⟨(n1, n2) :: l, ?_, by simp [h2], by simp [h3, cells2]⟩
        intro p hp
        rcases List.mem_cons.1 hp with rfl | hp
        · exact ⟨by omega, by omega, by omega, by omega⟩
        · exact h1 p hp
      | _, _, .nil => simp at hl
      | _, _, .cons _ .nil => simp at hl
      | _, _, .cons _ (.cons _ (.cons _ _)) => simp at hl
  obtain ⟨l, h1, h3, h4⟩ := key els cells hall
  simp only [tyP, Ty.ag, Bool.false_eq_true, if_false, Ty.n, List.cons.injEq, and_true] at h2
  exact ⟨l, rest.isEmpty, h1, by rw [← h2, h3, h4]⟩

theorem meterBackwards_true {H : Type} (ds : List (DataW H)) (xs : List D) (h : Ty.Args [tyM, tyP] ds xs) : exF F5 xs = some (.bool true) := by
  obtain ⟨e1, dr1, x1, xr1, q1, rfl, a1, e2, dr2, x2, xr2, q2, rfl, a2, q3, rfl⟩ := h
  obtain ⟨x, y, z, rfl⟩ := arg_M a1
  obtain ⟨l, ex, hok, rfl⟩ := arg_P a2
  exact exF_of (backwards x y z ex l hok)

theorem meterSwaps_true {H : Type} (ds : List (DataW H)) (xs : List D) (h : Ty.Args [tyM, .int .i64, .int .i64, tyP] ds xs) : exF F7 xs = some (.bool true) := by
  obtain ⟨e1, dr1, x1, xr1, q1, rfl, a1, e2, dr2, x2, xr2, q2, rfl, a2, e3, dr3, x3, xr3, q3, rfl, a3, e4, dr4, x4, xr4, q4, rfl, a4, q5, rfl⟩ := h
  obtain ⟨x, y, z, rfl⟩ := arg_M a1
  obtain ⟨a, rfl, _⟩ := arg_int a2
  obtain ⟨b, rfl, _⟩ := arg_int a3
  obtain ⟨l, ex, hok, rfl⟩ := arg_P a4
  exact exF_of (swaps x y z a b ex l hok)

theorem meterParts_true {H : Type} (ds : List (DataW H)) (xs : List D) (h : Ty.Args [tyM, tyP, .int .u16] ds xs) : exF F6 xs = some (.bool true) := by
  obtain ⟨e1, dr1, x1, xr1, q1, rfl, a1, e2, dr2, x2, xr2, q2, rfl, a2, e3, dr3, x3, xr3, q3, rfl, a3, q5, rfl⟩ := h
  obtain ⟨x, y, z, rfl⟩ := arg_M a1
  obtain ⟨l, ex, hok, rfl⟩ := arg_P a2
  obtain ⟨c, rfl, hc⟩ := arg_int a3
  have := u16_wf hc
  exact exF_of (parts x y z ex l c this.1 this.2 hok)

theorem meterHours_true {H : Type} (ds : List (DataW H)) (xs : List D) (h : Ty.Args [tyM, .int .u8, .int .u8, .int .u8] ds xs) : exF F8 xs = some (.bool true) := by
  obtain ⟨e1, dr1, x1, xr1, q1, rfl, a1, e2, dr2, x2, xr2, q2, rfl, a2, e3, dr3, x3, xr3, q3, rfl, a3, e4, dr4, x4, xr4, q4, rfl, a4, q5, rfl⟩ := h
  obtain ⟨x, y, z, rfl⟩ := arg_M a1
  obtain ⟨a, rfl, ha⟩ := arg_int a2
  obtain ⟨b, rfl, hb⟩ := arg_int a3
  obtain ⟨c, rfl, hc⟩ := arg_int a4
  have := u8_wf ha
  have := u8_wf hb
  have := u8_wf hc
  exact exF_of (hours x y z a b c (by omega) (by omega) (by omega) (by omega) (by omega) (by omega))

end Go.Proofs.Ytgkjmdbjncnlpaa
