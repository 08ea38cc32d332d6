/- The laws on the texts of tokens, in plain lists of bytes. -/
import Derived.Test.YtgkjmdbjncnlpaaDoorKs
namespace Go.Proofs.YtgkjmdbjncnlpaaDoor
open Go.Ev
set_option linter.unusedVariables false
set_option linter.unusedSimpArgs false
set_option maxRecDepth 100000

theorem dec_len : ∀ (f v : Nat), (decN f v).length ≤ f
  | 0, _ => Nat.le_refl _
  | f + 1, v => by
    have := dec_len f (v / 10)
    simp only [decN]
    split
    · simp
    · simp; omega

theorem FR_eq (n : Nat) : ∀ (k v m : Nat), v < 10 ^ k → v ≤ 10000000 → m + k + 1 ≤ 9000 → FR23 n (m + k + 1) 23 [.int .i64 v] = some (.str (decN (m + k + 1) v)) := by
  have low : ∀ (v j : Nat), v < 10 → FR23 n (j + 1) 23 [.int .i64 v] = some (.str (decN (j + 1) v)) := by
    intro v j h
    show F23B (FR23 n j) n [.int .i64 v] = _
    unfold F23B S23_1
    simp only [decN]
    rw [decide_eq_true (show (v : Int) < 10 by omega), cond_t, wrap64_in (by omega) (by omega), IntWalk.u8_in _ ⟨by omega, by omega⟩, decide_eq_true (show (0 : Int) ≤ 48 + (v : Int) by omega), decide_eq_true (show 48 + (v : Int) < 256 by omega), if_pos h]
    rw [show Int.toNat (48 + (v : Int)) = 48 + v by omega]; rfl
  intro k
  induction k with
  | zero => intro v m h hv hm; exact low v (m + 0) (by simp at h; omega)
  | succ k ih =>
    intro v m h hv hm
    by_cases h10 : v < 10
    · exact low v (m + (k + 1)) h10
    · have hd : v / 10 < 10 ^ k := by rw [Nat.pow_succ] at h; omega
      have := ih (v / 10) m hd (by omega) (by omega)
      rw [show m + (k + 1) + 1 = (m + k + 1) + 1 by omega]
      show F23B (FR23 n (m + k + 1)) n [.int .i64 v] = _
      unfold F23B S23_1
      simp only [decN]
      have e1 : Int.tdiv (v : Int) 10 = ((v / 10 : Nat) : Int) := by rw [Int.tdiv_eq_ediv_of_nonneg (by omega)]; omega
      have e2 : Int.tmod (v : Int) 10 = ((v % 10 : Nat) : Int) := by rw [Int.tmod_eq_emod_of_nonneg (by omega)]; omega
      have hl := dec_len (m + k + 1) (v / 10)
      rw [decide_eq_false (show ¬ (v : Int) < 10 by omega), cond_f, e1, e2, wrap64_in (n := ((v / 10 : Nat) : Int)) (by omega) (by omega), this]
      simp only [bind_mk, gS_mk]
      rw [wrap64_in (by omega) (by omega), IntWalk.u8_in _ ⟨by omega, by omega⟩, decide_eq_true (show (0 : Int) ≤ 48 + ((v % 10 : Nat) : Int) by omega), decide_eq_true (show 48 + ((v % 10 : Nat) : Int) < 256 by omega), if_neg h10]
      rw [show Int.toNat (48 + ((v % 10 : Nat) : Int)) = 48 + v % 10 by omega, fits_ok (by simp; omega)]; rfl

theorem F23_eq {v : Nat} (h : v ≤ 1000000) : F23 9000 [.int .i64 v] = some (.str (decN 9000 v)) := by
  have := FR_eq 9000 7 v 8992 (by omega) (by omega) (by omega)
  exact this

theorem F13_eq (x : Tok) (h0 : 0 ≤ x.n) (h1 : x.n ≤ 1000000) : F13 9000 [.agg x.cells] = some (.str (textT x)) := by
  unfold F13 S13_1 Tok.cells textT
  simp only []
  by_cases hk : x.k = 2
  · obtain ⟨v, hv⟩ : ∃ v : Nat, x.n = (v : Int) := ⟨x.n.toNat, by omega⟩
    rw [beq_iff_eq.2 hk, cond_t, if_pos hk]
    rw [show (if x.n > (0 : Int) then x.n else (0 : Int)) = (v : Int) by split <;> omega, F23_eq (by omega), hv, Int.toNat_natCast]
    rfl
  · rw [beq_eq_false_iff_ne.2 hk, cond_f, if_neg hk]

theorem lex_nums : ∀ (l : List Tok) (f : Nat) (r : List UInt8) (a cnt : Nat), lexS f r a cnt = .ok l → r.length < f → r.length ≤ 9000 → ∀ x ∈ l, 0 ≤ x.n ∧ x.n ≤ 1000000
  | [], _, _, _, _, _, _, _ => by simp
  | t :: l, f, r, a, cnt, h, hf, hl => by
    obtain ⟨c, r2, e, h4, h5, h2, h0, rfl, h'⟩ := lex_first h hf
    have hlen : r2.length + 1 + gapL false r = r.length := by have := congrArg List.length e; have := gap_le r false; simp at *; omega
    have ih := lex_nums l f _ _ _ h' (by simp; omega) (by simp; omega)
    intro x hx
    rcases List.mem_cons.1 hx with rfl | hx
    · exact (text_raw 0 (by simp; omega) h0).2
    · exact ih x hx

theorem cover_loop {ρ : Type} (s : List UInt8) (hs : s.length ≤ 8000) (L : List Tok) (hL : L.length ≤ 2000) (up ex : Bool) (k0 : Option ρ) (k1 : Int → Int → Option ρ) :
    ∀ (r pre : List Tok) (f : Nat) (p q : List UInt8) (cnt : Nat), L = pre ++ r → r.length < f → s = p ++ q → lexS 9000 q p.length cnt = .ok r →
    ∃ p' q', s = p' ++ q' ∧ gapL false q' = q'.length ∧ L4_3 9000 f s up p.length L.length (toksD L) ex L.length pre.length k0 k1 = k1 p'.length L.length := by
  intro r
  induction r with
  | nil =>
    intro pre f p q cnt hl hf hpq h
    cases f with
    | zero => omega
    | succ f =>
      have hg := lex_first h (by subst hpq; simp at hs; omega)
      refine ⟨p, q, hpq, hg, ?_⟩
      have hpl : pre.length = L.length := by rw [hl]; simp
      show S4_2 9000 s up p.length L.length (toksD L) ex L.length pre.length k0 (fun x1 x2 => L4_3 9000 f s up x1 L.length (toksD L) ex L.length x2 k0 k1) (k1 p.length pre.length) = _
      unfold S4_2
      rw [hpl, decide_eq_false (by omega), cond_f]
  | cons t r ih =>
    intro pre f p q cnt hl hf hpq h
    cases f with
    | zero => omega
    | succ f =>
      have hql : p.length + q.length = s.length := by rw [hpq]; simp
      obtain ⟨c, r2, e, h4, h5, h2, h0, rfl, h'⟩ := lex_first h (by omega)
      have hgl := gap_le q false
      have hlen : r2.length + 1 + gapL false q = q.length := by have := congrArg List.length e; simp at this; omega
      have hF := F14_eq hpq hs
      have hp := raw_pos h0
      have hk := raw_le (c :: r2)
      have hraw := raw_pre (c :: r2)
      obtain ⟨ht, hn0, hn1⟩ := text_raw (p.length + gapL false q) (show (c :: r2).length ≤ 9000 by simp; omega) h0
      have hF13 := F13_eq ⟨(tokAt (c :: r2)).k, (tokAt (c :: r2)).t, (tokAt (c :: r2)).n, p.length + gapL false q⟩ hn0 hn1
      rw [ht] at hF13
      have la : pre.length < L.length := by rw [hl]; simp
      have hA : (toksD L).drop (pre.length * 4) = .int .i64 (tokAt (c :: r2)).k :: .str (tokAt (c :: r2)).t :: .int .i64 (tokAt (c :: r2)).n :: .int .i64 ((p.length + gapL false q : Nat) : Int) :: toksD r := by
        rw [drop_toks, hl, List.drop_left]; rfl
      simp only [Tok.cells] at hF13
      have hsd : s.drop (p.length + gapL false q) = c :: r2 := by rw [hpq, ← List.drop_drop, List.drop_left, e]
      generalize tokAt (c :: r2) = T at *
      generalize gapL false q = g at *
      simp only [List.length_cons] at hk
      have i1 : (decide ((0 : Int) ≤ (pre.length : Int)) && true) = true := by rw [decide_eq_true (by omega)]; rfl
      have ne : (T.raw == ([] : List UInt8)) = false := by
        cases hr : T.raw with
        | nil => rw [hr] at hp; simp at hp
        | cons _ _ => rfl
      have w1 : IntKind.i64.wrap (((p.length + g : Nat) : Int) + (T.raw.length : Int)) = ((p.length + g + T.raw.length : Nat) : Int) := wrN (by omega)
      have i2 : (decide ((0 : Int) ≤ ((p.length + g + T.raw.length : Nat) : Int)) && decide (((p.length + g + T.raw.length : Nat) : Int) ≤ (s.length : Int))) = true := by rw [decide_eq_true (by omega), decide_eq_true (by omega)]; rfl
      have i3 : (decide ((0 : Int) ≤ ((p.length + g : Nat) : Int)) && decide (((p.length + g : Nat) : Int) ≤ ((p.length + g + T.raw.length : Nat) : Int))) = true := by rw [decide_eq_true (by omega), decide_eq_true (by omega)]; rfl
      obtain ⟨p', q', e1, e2, e3⟩ := ih (pre ++ [⟨T.k, T.t, T.n, p.length + g⟩]) f (p ++ q.take g ++ (c :: r2).take T.raw.length) ((c :: r2).drop T.raw.length) (cnt + 1) (by rw [hl]; simp) (by simp at hf; omega)
        (by rw [List.append_assoc, List.append_assoc, List.take_append_drop, ← e, List.take_append_drop, hpq])
        (by rw [show (p ++ q.take g ++ (c :: r2).take T.raw.length).length = p.length + g + T.raw.length by simp; omega]; exact h')
      rw [show (p ++ q.take g ++ (c :: r2).take T.raw.length).length = p.length + g + T.raw.length by simp; omega, List.length_append, List.length_singleton] at e3
      refine ⟨p', q', e1, e2, ?_⟩
      rw [← e3]
      show S4_2 9000 s up p.length L.length (toksD L) ex L.length pre.length k0 (fun x1 x2 => L4_3 9000 f s up x1 L.length (toksD L) ex L.length x2 k0 k1) (k1 p.length pre.length) = _
      unfold S4_2
      rw [decide_eq_true (show (pre.length : Int) < (L.length : Int) by omega), cond_t, i1]
      simp only [ass_mk, Int.toNat_natCast, hA, gC_mk, gI_mk, gS_mk, hF13, bind_mk, ne, cond_f, hF, w1, i2, i3, hsd]
      rw [decide_eq_false (show ¬ (((p.length + g : Nat) : Int) < (p.length : Int)) by omega), decide_eq_false (show ¬ (((p.length + g + T.raw.length : Nat) : Int) > (s.length : Int)) by omega), bne_eq_false_iff_eq.2 rfl]
      rw [show p.length + g + T.raw.length - (p.length + g) = T.raw.length by omega, ← hraw, beq_self_eq_true, wr (by omega)]
      rfl

theorem covers (s : List UInt8) : F4 9000 [.str s] = some (.bool true) := by
  unfold F4 S4_1
  simp only [head_N, bind_mk, gB_mk]
  by_cases ha : (s.length : Int) > 8000
  · rw [decide_eq_true ha]; rfl
  rw [decide_eq_false ha, cond_f]
  simp only [F10_eq]
  cases hq : lexF s with
  | error e =>
    simp only [lexD, bind_mk, gT_mk, gC_mk, gL_mk, gI_mk, gE_mk, bne_iff_ne.2 (lexF_err hq), cond_t]
    rfl
  | ok l =>
    obtain ⟨sa, la, la2, ba⟩ := lexF_ok hq
    simp only [lexD, bind_mk, gT_mk, gC_mk, gL_mk, gI_mk, gE_mk, show ((0 : Int) != 0) = false from rfl, cond_f]
    obtain ⟨p', q', e1, e2, e3⟩ := cover_loop (ρ := D) s sa l la2 true false (S4_4 9000 (some (D.bool false))) (fun x16 x17 => S4_5 9000 s true x16 l.length (toksD l) false (l.length : Int) x17 (fun x18 => some (D.bool x18))) l [] 9000 [] s 0 rfl (by omega) rfl la
    refine Eq.trans e3 ?_
    unfold S4_5
    rw [F14_eq e1 sa]
    have : p'.length + gapL false q' = s.length := by rw [e2, e1]; simp
    simp only [bind_mk, gI_mk, cond_t, this, beq_self_eq_true]

theorem write_loop {ρ : Type} (L : List Tok) (hL : L.length ≤ 2000) (up ex : Bool) (k0 : List UInt8 → Int → Option ρ) (hn : ∀ x ∈ L, 0 ≤ x.n ∧ x.n ≤ 1000000) :
    ∀ (r pre : List Tok) (f : Nat) (acc : List UInt8), L = pre ++ r → r.length < f → acc.length + (wrote r).length ≤ 100000 →
    L7_3 9000 f up L.length (toksD L) ex acc L.length pre.length k0 = k0 (acc ++ wrote r) L.length := by
  intro r
  induction r with
  | nil =>
    intro pre f acc hl hf ha
    cases f with
    | zero => omega
    | succ f =>
      have hpl : pre.length = L.length := by rw [hl]; simp
      show S7_2 9000 up L.length (toksD L) ex acc L.length pre.length (fun x1 x2 => L7_3 9000 f up L.length (toksD L) ex x1 L.length x2 k0) (k0 acc pre.length) = _
      unfold S7_2
      rw [hpl, decide_eq_false (by omega), cond_f]
      simp [wrote]
  | cons t r ih =>
    intro pre f acc hl hf ha
    cases f with
    | zero => omega
    | succ f =>
      have la : pre.length < L.length := by rw [hl]; simp
      have hA : (toksD L).drop (pre.length * 4) = .int .i64 t.k :: .str t.t :: .int .i64 t.n :: .int .i64 (t.at_ : Int) :: toksD r := by
        rw [drop_toks, hl, List.drop_left]; rfl
      obtain ⟨hn0, hn1⟩ := hn t (by rw [hl]; simp)
      have hF13 := F13_eq t hn0 hn1
      simp only [Tok.cells] at hF13
      have i1 : (decide ((0 : Int) ≤ (pre.length : Int)) && true) = true := by rw [decide_eq_true (by omega)]; rfl
      have hw : wrote (t :: r) = (textT t ++ [32]) ++ wrote r := rfl
      rw [hw] at ha ⊢
      simp only [List.length_append, List.length_cons, List.length_nil] at ha
      have f1 : fitsS ((textT t).length + ([32] : List UInt8).length) = true := fits_ok (by simp; omega)
      have f2 : fitsS (acc.length + (textT t ++ ([32] : List UInt8)).length) = true := fits_ok (by simp; omega)
      have := ih (pre ++ [t]) f (acc ++ (textT t ++ [32])) (by rw [hl]; simp) (by simp at hf; omega) (by simp; omega)
      rw [List.length_append, List.length_singleton] at this
      rw [← List.append_assoc, ← this]
      show S7_2 9000 up L.length (toksD L) ex acc L.length pre.length (fun x1 x2 => L7_3 9000 f up L.length (toksD L) ex x1 L.length x2 k0) (k0 acc pre.length) = _
      unfold S7_2
      rw [decide_eq_true (show (pre.length : Int) < (L.length : Int) by omega), cond_t, i1]
      simp only [ass_mk, Int.toNat_natCast, hA, gC_mk, gI_mk, gS_mk, hF13, bind_mk, f1, f2]
      rw [wr (by omega)]

theorem alike_loop {ρ : Type} (n : Nat) (a b : List Tok) (e1 e2 : Bool) (hab : a.length = b.length) (hla : a.length ≤ 1000000) (k0 : Option ρ) (k1 : Int → Option ρ) (hk : ∀ i, k1 i = k1 0) :
    ∀ (r r' pre pre' : List Tok) (f : Nat), a = pre ++ r → b = pre' ++ r' → pre.length = pre'.length → r.length < f →
    L15_3 n f a.length (toksD a) e1 b.length (toksD b) e2 pre.length k0 k1 = cond (alikeB r r') (k1 0) k0 := by
  intro r
  induction r with
  | nil =>
    intro r' pre pre' f ha hb hp hf
    cases f with
    | zero => omega
    | succ f =>
      have hr' : r' = [] := by
        apply List.eq_nil_of_length_eq_zero
        subst ha hb; simp at hab; omega
      subst hr'
      show S15_2 n a.length (toksD a) e1 b.length (toksD b) e2 pre.length k0 (fun x1 => L15_3 n f a.length (toksD a) e1 b.length (toksD b) e2 x1 k0 k1) (k1 pre.length) = _
      unfold S15_2
      rw [decide_eq_false (by subst ha; simp), cond_f, hk]; rfl
  | cons x r ih =>
    intro r' pre pre' f ha hb hp hf
    cases f with
    | zero => omega
    | succ f =>
      cases r' with
      | nil => subst ha hb; simp at hab; omega
      | cons y r' =>
        have hA : (toksD a).drop (pre.length * 4) = .int .i64 x.k :: .str x.t :: .int .i64 x.n :: .int .i64 x.at_ :: toksD r := by
          rw [drop_toks, ha, List.drop_left]; rfl
        have hB : (toksD b).drop (pre.length * 4) = .int .i64 y.k :: .str y.t :: .int .i64 y.n :: .int .i64 y.at_ :: toksD r' := by
          rw [drop_toks, hb, hp, List.drop_left]; rfl
        have la : pre.length < a.length := by subst ha; simp
        have i1 : (decide ((0 : Int) ≤ (pre.length : Int)) && decide ((pre.length : Int) < (a.length : Int))) = true := by rw [decide_eq_true (by omega), decide_eq_true (by omega)]; rfl
        have i2 : (decide ((0 : Int) ≤ (pre.length : Int)) && decide ((pre.length : Int) < (b.length : Int))) = true := by rw [decide_eq_true (by omega), decide_eq_true (by omega)]; rfl
        show S15_2 n a.length (toksD a) e1 b.length (toksD b) e2 pre.length k0 (fun x1 => L15_3 n f a.length (toksD a) e1 b.length (toksD b) e2 x1 k0 k1) (k1 pre.length) = _
        unfold S15_2
        simp only [i1, i2, ass_mk, Int.toNat_natCast, hA, hB, gC_mk, gI_mk, gS_mk, List.drop_succ_cons, List.drop_zero]
        rw [decide_eq_true (show (pre.length : Int) < (a.length : Int) by omega), cond_t]
        rw [wr (by omega)]
        have := ih r' (pre ++ [x]) (pre' ++ [y]) f (by simp [ha]) (by simp [hb]) (by simp [hp]) (by simp at hf; omega)
        rw [List.length_append, List.length_singleton] at this
        rw [this]
        simp only [alikeB]
        show cond (!(x.k == y.k)) _ _ = _
        cases (x.k == y.k) with
        | false => simp
        | true =>
          cases (x.t == y.t) with
          | false => simp
          | true =>
            show cond (!(x.n == y.n)) _ _ = _
            cases (x.n == y.n) with
            | false => simp
            | true => simp

theorem alike_len : ∀ (a b : List Tok), alikeB a b = true → a.length = b.length
  | [], [], _ => rfl
  | x :: a, y :: b, h => by
    simp only [alikeB, Bool.and_eq_true] at h
    have := alike_len a b h.2
    simp [this]
  | [], _ :: _, h => by cases h
  | _ :: _, [], h => by cases h

theorem F15_eq (a b : List Tok) (e1 e2 : Bool) (hla : a.length ≤ 8000) (h : alikeB a b = true) :
    F15 9000 [.lst 4 a.length (toksD a) e1, .lst 4 b.length (toksD b) e2] = some (.bool true) := by
  unfold F15 S15_1
  simp only []
  have hab := alike_len a b h
  rw [bne_eq_false_iff_eq.2 (by omega), cond_f]
  have := alike_loop (ρ := D) 9000 a b e1 e2 hab (by omega) (S15_4 9000 (some (.bool false))) (fun x1 => S15_5 9000 a.length (toksD a) e1 b.length (toksD b) e2 x1 (some (.bool true))) (fun _ => rfl) a b [] [] 9000 rfl rfl rfl (by omega)
  refine Eq.trans this ?_
  rw [h]; rfl

theorem writes (s : List UInt8) : F7 9000 [.str s] = some (.bool true) := by
  unfold F7 S7_1
  simp only [head_N, bind_mk, gB_mk]
  by_cases ha : (s.length : Int) > 8000
  · rw [decide_eq_true ha]; rfl
  rw [decide_eq_false ha, cond_f]
  simp only [F10_eq]
  cases hq : lexF s with
  | error e => simp only [lexD, bind_mk, gT_mk, gC_mk, gL_mk, gI_mk, gE_mk, bne_iff_ne.2 (lexF_err hq), cond_t]
  | ok l =>
    obtain ⟨sa, la, la2, ba⟩ := lexF_ok hq
    have hn := lex_nums l 9000 s 0 0 la (by omega) (by omega)
    obtain ⟨w1, w2⟩ := lex_wrote l 9000 s 0 0 la (by omega) (by omega)
    simp only [lexD, bind_mk, gT_mk, gC_mk, gL_mk, gI_mk, gE_mk, show ((0 : Int) != 0) = false from rfl, cond_f]
    have := write_loop (ρ := D) l la2 true false (fun x16 x17 => S7_4 9000 true l.length (toksD l) false x16 (l.length : Int) x17 (fun x18 => some (D.bool x18))) hn l [] 9000 [] rfl (by omega) (by simp; omega)
    refine Eq.trans this ?_
    rw [List.nil_append]
    unfold S7_4
    simp only [F10_eq]
    by_cases hbig : (wrote l).length > 8000
    · rw [show lexF (wrote l) = .error (2, 0) from if_pos hbig]
      simp only [lexD, bind_mk, gT_mk, gC_mk, gL_mk, gI_mk, gE_mk, cond_t]
      rw [decide_eq_true (show ((wrote l).length : Int) > 8000 by omega)]; rfl
    · obtain ⟨m, em, am⟩ := w2 9000 0 (by omega)
      have eq : lexF (wrote l) = .ok m := by unfold lexF; rw [if_neg hbig]; exact em
      rw [eq]
      simp only [lexD, bind_mk, gT_mk, gC_mk, gL_mk, gI_mk, gE_mk, cond_t]
      rw [decide_eq_false (show ¬ ((wrote l).length : Int) > 8000 by omega), F15_eq l m false false (by omega) am]
      rfl

theorem lexerCovers_true {H : Type} (ds : List (DataW H)) (xs : List D) (h : Ty.Args [.str] ds xs) : exF F4 xs = some (.bool true) := by
  obtain ⟨e1, dr1, x1, xr1, q1, rfl, a1, q3, rfl⟩ := h
  obtain ⟨l, rfl, _⟩ := arg_str a1
  exact exF_of (covers l)

theorem lexerWrites_true {H : Type} (ds : List (DataW H)) (xs : List D) (h : Ty.Args [.str] ds xs) : exF F7 xs = some (.bool true) := by
  obtain ⟨e1, dr1, x1, xr1, q1, rfl, a1, q3, rfl⟩ := h
  obtain ⟨l, rfl, _⟩ := arg_str a1
  exact exF_of (writes l)

end Go.Proofs.YtgkjmdbjncnlpaaDoor
