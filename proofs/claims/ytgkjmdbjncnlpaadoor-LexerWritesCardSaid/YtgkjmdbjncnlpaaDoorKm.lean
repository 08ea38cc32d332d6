/- The functions of the lexer, in plain lists of bytes. -/
import Derived.Test.YtgkjmdbjncnlpaaDoorKd
import Derived.Test.YtgkjmdbjncnlpaaDoorEv2
namespace Go.Proofs.YtgkjmdbjncnlpaaDoor
open Go.Ev
set_option linter.unusedVariables false
set_option linter.unusedSimpArgs false
set_option maxRecDepth 100000

theorem F18_eq (n : Nat) (b : Int) : F18 n [.int .u8 b] = some (.int .i64 (kindI b)) := by
  unfold F18 S18_1 kindI
  simp only [cond_eq_ite, decide_eq_true_eq, beq_iff_eq, ge_iff_le]
  by_cases h1 : 97 ≤ b <;> by_cases h2 : b ≤ 122 <;> by_cases h3 : 48 ≤ b <;> by_cases h4 : b ≤ 57 <;> simp only [h1, h2, h3, h4, if_true, if_false, true_and, false_and, and_true, and_false] <;> first | rfl | (exfalso; omega) | (by_cases h5 : b = 59 <;> by_cases h6 : b = 123 <;> by_cases h7 : b = 125 <;> by_cases h8 : b = 32 <;> by_cases h9 : b = 9 <;> by_cases h10 : b = 10 <;> by_cases h11 : b = 35 <;> simp [h5, h6, h7, h8, h9, h10, h11])

theorem wr {i : Nat} (h : i ≤ 1000000) : IntKind.i64.wrap ((i : Int) + 1) = ((i + 1 : Nat) : Int) := by rw [wrap64_in (by omega) (by omega)]; rfl

theorem step_out {ρ : Type} {s : List UInt8} {i : Nat} (h : s[i]? = none) (x k : Option ρ) : cond (decide ((i : Int) < (List.length s : Int))) x k = k := by
  have := List.getElem?_eq_none_iff.1 h
  rw [decide_eq_false (by omega)]; rfl

theorem step_in {ρ : Type} {s : List UInt8} {i : Nat} {c : UInt8} (h : s[i]? = some c) (g : UInt8 → Option ρ) (k : Option ρ) :
    cond (decide ((i : Int) < (List.length s : Int))) (ass (decide ((0 : Int) ≤ (i : Int))) (gU s (Int.toNat (i : Int)) g)) k = g c := by
  obtain ⟨hl, _⟩ := List.getElem?_eq_some_iff.1 h
  rw [decide_eq_true (by omega), decide_eq_true (by omega)]
  simp only [cond_t, ass_mk, Int.toNat_natCast, gU, h]

theorem word_loop {ρ : Type} (n : Nat) (s : List UInt8) (hs : s.length ≤ 10000) (a2 a4 : Int) (k0 : Int → Option ρ) :
    ∀ (r pre : List UInt8) (f : Nat), s = pre ++ r → r.length < f → L21_3 n f s a2 pre.length a4 k0 = k0 ((pre.length + (r.takeWhile isW).length : Nat) : Int) := by
  refine run_gen isW s (fun f i => L21_3 n f s a2 i a4 k0) k0 fun m i hi => ?_
  show S21_2 n s a2 i a4 (fun x1 => L21_3 n m s a2 x1 a4 k0) (k0 i) = _
  unfold S21_2
  cases h : s[i]? with
  | none => exact step_out h _ _
  | some c =>
    rw [step_in h]
    simp only [F18_eq, bind_mk, gI_mk, wr (Nat.le_trans hi (Nat.le_trans hs (by omega)))]
    show _ = if isW c then _ else _
    unfold isW kindB
    cases e1 : (kindI (c.toNat : Int) == 1) <;> cases e2 : (kindI (c.toNat : Int) == 2) <;> cases e3 : ((c.toNat : Int) == 95) <;> simp

theorem digit_loop {ρ : Type} (n : Nat) (s : List UInt8) (hs : s.length ≤ 10000) (a2 : Int) (k0 : Int → Option ρ) :
    ∀ (r pre : List UInt8) (f : Nat), s = pre ++ r → r.length < f → L21_6 n f s a2 pre.length 2 k0 = k0 ((pre.length + (r.takeWhile isDg).length : Nat) : Int) := by
  refine run_gen isDg s (fun f i => L21_6 n f s a2 i 2 k0) k0 fun m i hi => ?_
  show S21_5 n s a2 i 2 (fun x1 => L21_6 n m s a2 x1 2 k0) (k0 i) = _
  unfold S21_5
  cases h : s[i]? with
  | none => exact step_out h _ _
  | some c =>
    rw [step_in h]
    simp only [F18_eq, bind_mk, gI_mk, wr (Nat.le_trans hi (Nat.le_trans hs (by omega)))]
    show _ = if isDg c then _ else _
    unfold isDg kindB
    cases e1 : (kindI (c.toNat : Int) == 2) <;> simp

theorem comment_loop {ρ : Type} (n : Nat) (s : List UInt8) (hs : s.length ≤ 10000) (a2 : Int) (a4 : Nat) (k0 : Int → Option ρ) :
    ∀ (r pre : List UInt8) (f : Nat), s = pre ++ r → r.length < f → L10_4 n f s a2 pre.length a4 k0 = k0 ((pre.length + (r.takeWhile isC).length : Nat) : Int) := by
  refine run_gen isC s (fun f i => L10_4 n f s a2 i a4 k0) k0 fun m i hi => ?_
  show S10_3 n s a2 i a4 (fun x1 => L10_4 n m s a2 x1 a4 k0) (k0 i) = _
  unfold S10_3
  cases h : s[i]? with
  | none => exact step_out h _ _
  | some c =>
    rw [step_in h]
    simp only [wr (Nat.le_trans hi (Nat.le_trans hs (by omega)))]
    show _ = if isC c then _ else _
    unfold isC
    cases e1 : ((c.toNat : Int) != 10) <;> simp

theorem F31_eq (n : Nat) {t : List UInt8} (ht : t.length ≤ 10000) : F31 n [.str t] = match Lib.atoiAll t with
    | .ok v => some (.tup [.int .i64 v, .nili])
    | .range => some (.tup [.int .i64 (Lib.atoiSat t), .ifc 58 .undef])
    | _ => none := by
  unfold F31 atoiF
  simp only []
  rw [if_pos (by omega)]
  cases Lib.atoiAll t <;> rfl

def numD (q : Int × Int × Int) : D := .tup [.agg [.int .i64 q.1, .str [], .int .i64 q.2.1, .int .i64 0], .int .i64 q.2.2]

theorem F29_eq (n : Nat) {c : UInt8} {r : List UInt8} (ht : (c :: r).length ≤ 10000) (hd : ∀ x ∈ c :: r, isDg x = true) : F29 n [.str (c :: r)] = some (numD (numT (c :: r))) := by
  unfold F29 S29_1
  simp only [F31_eq n ht]
  unfold numT
  have key : ∀ o : Lib.NumEnd Int, (o = .range ∨ ∃ v, o = .ok v) → (((match o with
      | .ok v => some (D.tup [.int .i64 v, .nili])
      | .range => some (.tup [.int .i64 (Lib.atoiSat (c :: r)), .ifc 58 .undef])
      | _ => none) : Option D).bind fun x2 => gT x2 fun x3 => gC x3 fun x4 x5 => gI .i64 x4 fun x6 => gC x5 fun x7 x8 => gF x7 (gE x8 (cond (decide (x6 > (1000000 : Int))) (some (numD (0, 0, 3))) (some (numD (2, x6, 0))))) fun x9 x10 => gE x8 (some (numD (0, 0, 3)))) =
      some (numD (match o with
        | .ok v => if v > 1000000 then (0, 0, 3) else (2, v, 0)
        | _ => (0, 0, 3))) := by
    intro o ho
    rcases ho with rfl | ⟨v, rfl⟩
    · rfl
    · simp only [bind_mk, gT_mk, gC_mk, gI_mk, gF_nil, gE_mk]
      by_cases h : v > 1000000
      · rw [decide_eq_true h, if_pos h]; rfl
      · rw [decide_eq_false h, if_neg h]; rfl
  by_cases h1 : 1 < (c :: r).length
  · have e1 : decide (((c :: r).length : Int) > 1) = true := decide_eq_true (by omega)
    simp only [e1, cond_t, gU, List.getElem?_cons_zero, List.head?_cons, Option.map_some, Option.some.injEq, h1, true_and]
    by_cases h2 : (c.toNat : Int) = 48
    · rw [if_pos h2, beq_iff_eq.2 h2]; rfl
    · rw [if_neg h2, beq_eq_false_iff_ne.2 h2, cond_f]
      exact key _ (atoi_ends hd (by simp))
  · have e1 : decide (((c :: r).length : Int) > 1) = false := decide_eq_false (by omega)
    simp only [e1, cond_f, h1, false_and, if_false]
    exact key _ (atoi_ends hd (by simp))

theorem slice_eq {s pre r : List UInt8} (hs : s = pre ++ r) {k : Nat} :
    List.take (Int.toNat ((pre.length + k : Nat) : Int) - Int.toNat (pre.length : Int)) (List.drop (Int.toNat (pre.length : Int)) s) = r.take k := by
  subst hs
  simp only [Int.toNat_natCast, List.drop_left]
  congr 1; omega

theorem slice_ok {s pre r : List UInt8} (hs : s = pre ++ r) {k : Nat} (hk : k ≤ r.length) :
    (decide ((0 : Int) ≤ ((pre.length + k : Nat) : Int)) && decide (((pre.length + k : Nat) : Int) ≤ (s.length : Int))) = true := by
  subst hs
  rw [List.length_append, decide_eq_true (by omega), decide_eq_true (by omega)]; rfl

theorem slice_ok2 {i k : Nat} : (decide ((0 : Int) ≤ (i : Int)) && decide ((i : Int) ≤ ((Int.toNat ((i + k : Nat) : Int) : Nat) : Int))) = true := by
  rw [decide_eq_true (by omega), decide_eq_true (by omega)]; rfl

def tkD (x : Tk) : D := .tup [.agg [.int .i64 x.k, .str x.t, .int .i64 x.n, .int .i64 0], .str x.raw, .int .i64 x.e]

theorem F21_eq {s pre r : List UInt8} {c : UInt8} (hs : s = pre ++ c :: r) (hl : s.length ≤ 8000) :
    F21 9000 [.str s, .int .i64 pre.length] = some (tkD (tokAt (c :: r))) := by
  have hg : s[pre.length]? = some c := by subst hs; simp
  have hl2 : (c :: r).length ≤ 8000 := by subst hs; simp at hl ⊢; omega
  have e0 : decide ((0 : Int) ≤ (pre.length : Int)) = true := decide_eq_true (by omega)
  unfold F21 S21_1 tokAt
  simp only [e0, ass_mk, Int.toNat_natCast, gU, hg, F18_eq, bind_mk, gI_mk, show kindI (c.toNat : Int) = kindB c from rfl]
  by_cases h1 : kindB c = 1
  · rw [if_pos h1, beq_iff_eq.2 h1, cond_t, word_loop 9000 s (by omega) _ _ _ (c :: r) pre 9000 hs (by omega)]
    have hk := takeWhile_le isW (c :: r)
    unfold S21_4
    rw [slice_ok hs hk, slice_ok2, slice_eq hs, take_takeWhile]
    simp only [ass_mk]
    by_cases h2 : 12 < ((c :: r).takeWhile isW).length
    · rw [if_pos h2, decide_eq_true (by omega)]; rfl
    · rw [if_neg h2, decide_eq_false (by omega), cond_f, show F30 9000 [.str ((c :: r).takeWhile isW)] = some (.str ((c :: r).takeWhile isW)) from if_pos (by omega)]
      rfl
  · rw [if_neg h1, beq_eq_false_iff_ne.2 h1, cond_f]
    by_cases h2 : kindB c = 2
    · rw [if_pos h2, beq_iff_eq.2 h2, cond_t, h2, digit_loop 9000 s (by omega) _ _ (c :: r) pre 9000 hs (by omega)]
      have hk := takeWhile_le isDg (c :: r)
      unfold S21_7
      rw [slice_ok hs hk, slice_ok2, slice_eq hs, take_takeWhile]
      have hd : isDg c = true := by unfold isDg; rw [h2]; rfl
      have ht : (c :: r).takeWhile isDg = c :: r.takeWhile isDg := by simp [List.takeWhile_cons, hd]
      have hall := takeWhile_all isDg (c :: r)
      rw [ht] at hk hall ⊢
      simp only [ass_mk]
      rw [F29_eq 9000 (by omega) hall]
      rfl
    · rw [if_neg h2, beq_eq_false_iff_ne.2 h2, cond_f]
      by_cases h3 : kindB c = 3
      · rw [if_pos h3, beq_iff_eq.2 h3, cond_t, wr (by subst hs; simp at hl; omega)]
        have e1 := slice_ok hs (k := 1) (by simp)
        have e2 : (true && decide ((pre.length : Int) ≤ ((Int.toNat ((pre.length + 1 : Nat) : Int) : Nat) : Int))) = true := by rw [decide_eq_true (by omega)]; rfl
        have e3 := slice_eq hs (k := 1)
        rw [Int.toNat_natCast pre.length] at e3
        simp only [e1, e2, e3, ass_mk]
        rfl
      · rw [if_neg h3, beq_eq_false_iff_ne.2 h3, cond_f]; rfl

end Go.Proofs.YtgkjmdbjncnlpaaDoor
