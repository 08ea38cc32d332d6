/- The comparison of tokens, and the law that the lexer is the reference. -/
import Derived.Test.YtgkjmdbjncnlpaaDoorKp
namespace Go.Proofs.YtgkjmdbjncnlpaaDoor
open Go.Ev
set_option linter.unusedVariables false
set_option linter.unusedSimpArgs false
set_option maxRecDepth 100000

theorem head_ok (m : Nat) : F9 (m + 40) [] = some (.bool true) := by kernel_rfl

theorem head_N : F9 9000 [] = some (.bool true) := head_ok 8960

def sameB : List Tok → List Tok → Nat → Bool
  | [], [], _ => true
  | x :: a, y :: b, d => (x.k == y.k) && (x.t == y.t) && (x.n == y.n) && ((x.at_ + d) == y.at_) && sameB a b d
  | _, _, _ => false

theorem drop_toks : ∀ (l : List Tok) (i : Nat), (toksD l).drop (i * 4) = toksD (l.drop i)
  | [], i => by simp [toksD]
  | x :: l, 0 => by simp
  | x :: l, i + 1 => by
    have := drop_toks l i
    rw [show (i + 1) * 4 = i * 4 + 1 + 1 + 1 + 1 by omega]
    simpa [toksD, Tok.cells] using this

theorem same_loop {ρ : Type} (n : Nat) (a b : List Tok) (e1 e2 : Bool) (d : Nat) (hd : d ≤ 100000) (hab : a.length = b.length) (hla : a.length ≤ 1000000) (k0 : Option ρ) (k1 : Int → Option ρ) (hk : ∀ i, k1 i = k1 0) :
    ∀ (r r' pre pre' : List Tok) (f : Nat), a = pre ++ r → b = pre' ++ r' → pre.length = pre'.length → r.length < f → (∀ x ∈ r, x.at_ ≤ 100000) →
    L12_3 n f a.length (toksD a) e1 b.length (toksD b) e2 d pre.length k0 k1 = cond (sameB r r' d) (k1 0) k0 := by
  intro r
  induction r with
  | nil =>
    intro r' pre pre' f ha hb hp hf _
    cases f with
    | zero => omega
    | succ f =>
      have hr' : r' = [] := by
        apply List.eq_nil_of_length_eq_zero
        subst ha hb; simp at hab; omega
      subst hr'
      show S12_2 n a.length (toksD a) e1 b.length (toksD b) e2 d pre.length k0 (fun x1 => L12_3 n f a.length (toksD a) e1 b.length (toksD b) e2 d x1 k0 k1) (k1 pre.length) = _
      unfold S12_2
      rw [decide_eq_false (by subst ha; simp), cond_f, hk]; rfl
  | cons x r ih =>
    intro r' pre pre' f ha hb hp hf hat
    cases f with
    | zero => omega
    | succ f =>
      cases r' with
      | nil => subst ha hb; simp at hab; omega
      | cons y r' =>
        have hA : (toksD a).drop (pre.length * 4) = .int .i64 x.k :: .str x.t :: .int .i64 x.n :: .int .i64 x.at_ :: toksD r := by
          rw [drop_toks, ha, List.drop_left]; rfl
        have hB : (toksD b).drop (pre.length * 4) = .int .i64 y.k :: .str y.t :: .int .i64 y.n :: .int .i64 y.at_ :: toksD r' := by
          rw [drop_toks, hb, hp, List.drop_left]; rfl
        have la : pre.length < a.length := by subst ha; simp
        have i1 : (decide ((0 : Int) ≤ (pre.length : Int)) && decide ((pre.length : Int) < (a.length : Int))) = true := by rw [decide_eq_true (by omega), decide_eq_true (by omega)]; rfl
        have i2 : (decide ((0 : Int) ≤ (pre.length : Int)) && decide ((pre.length : Int) < (b.length : Int))) = true := by rw [decide_eq_true (by omega), decide_eq_true (by omega)]; rfl
        have hx := hat x (by simp)
        show S12_2 n a.length (toksD a) e1 b.length (toksD b) e2 d pre.length k0 (fun x1 => L12_3 n f a.length (toksD a) e1 b.length (toksD b) e2 d x1 k0 k1) (k1 pre.length) = _
        unfold S12_2
        simp only [i1, i2, ass_mk, Int.toNat_natCast, hA, hB, gC_mk, gI_mk, gS_mk, List.drop_succ_cons, List.drop_zero]
        rw [decide_eq_true (show (pre.length : Int) < (a.length : Int) by omega), cond_t]
        rw [wr (by omega), wrN (by omega)]
        have := ih r' (pre ++ [x]) (pre' ++ [y]) f (by simp [ha]) (by simp [hb]) (by simp [hp]) (by simp at hf; omega) (fun z hz => hat z (by simp [hz]))
        rw [List.length_append, List.length_singleton] at this
        rw [this]
        simp only [sameB]
        have e4 : (((x.at_ + d : Nat) : Int) != (y.at_ : Int)) = !((x.at_ + d) == y.at_) := by
          by_cases h : x.at_ + d = y.at_
          · rw [beq_iff_eq.2 h, h]; simp
          · rw [beq_eq_false_iff_ne.2 h, bne_iff_ne.2 (by omega)]; rfl
        rw [e4]
        show cond (!(x.k == y.k)) _ _ = _
        cases (x.k == y.k) with
        | false => simp
        | true =>
          cases (x.t == y.t) with
          | false => simp
          | true =>
            show cond (!(x.n == y.n)) _ _ = _
            cases (x.n == y.n) with
            | false => simp
            | true =>
              cases ((x.at_ + d) == y.at_) with
              | false => simp
              | true => simp

theorem F12_eq (a b : List Tok) (e1 e2 : Bool) (d : Nat) (hd : d ≤ 100000) (hla : a.length ≤ 8000) (hat : ∀ x ∈ a, x.at_ ≤ 100000) :
    F12 9000 [.lst 4 a.length (toksD a) e1, .lst 4 b.length (toksD b) e2, .int .i64 d] = some (.bool (sameB a b d)) := by
  unfold F12 S12_1
  simp only []
  by_cases hab : a.length = b.length
  · rw [bne_eq_false_iff_eq.2 (by omega), cond_f]
    have := same_loop (ρ := D) 9000 a b e1 e2 d hd hab (by omega) (S12_4 9000 (some (.bool false))) (fun x1 => S12_5 9000 a.length (toksD a) e1 b.length (toksD b) e2 d x1 (some (.bool true))) (fun _ => rfl) a b [] [] 9000 rfl rfl rfl (by omega) hat
    refine Eq.trans this ?_
    cases sameB a b d <;> rfl
  · rw [bne_iff_ne.2 (by omega), cond_t]
    have : ∀ (a b : List Tok), a.length ≠ b.length → sameB a b d = false := by
      intro a
      induction a with
      | nil => intro b h; cases b with
        | nil => exact absurd rfl h
        | cons y b => rfl
      | cons x a ih => intro b h; cases b with
        | nil => rfl
        | cons y b => simp only [sameB]; rw [ih b (by simpa using h)]; simp
    rw [this a b hab]

theorem lex_at : ∀ (f : Nat) (r : List UInt8) (a cnt : Nat) (l : List Tok), lexS f r a cnt = .ok l → cnt ≤ 2000 → l.length + cnt ≤ 2000 ∧ ∀ x ∈ l, a ≤ x.at_ ∧ x.at_ < a + r.length := by
  intro f
  induction f with
  | zero => intro r a cnt l h; cases h
  | succ f ih =>
    intro r a cnt l h hc
    cases r with
    | nil => simp only [lexS] at h; injection h with h; subst h; simpa using hc
    | cons c r =>
      simp only [lexS] at h
      simp only [List.length_cons]
      split at h
      · obtain ⟨h1, h2⟩ := ih _ _ _ _ h hc
        exact ⟨h1, fun x hx => by have := h2 x hx; omega⟩
      · split at h
        · rename_i h5
          obtain ⟨h1, h2⟩ := ih _ _ _ _ h hc
          have hk := takeWhile_le isC (c :: r)
          refine ⟨h1, fun x hx => ?_⟩
          have := h2 x hx
          simp only [List.length_drop, List.length_cons] at this hk
          omega
        · split at h
          · cases h
          · rename_i h2000
            split at h
            · rename_i h0
              have hp := raw_pos h0
              have hle := raw_le (c :: r)
              split at h
              · rename_i l' hl'
                injection h with h; subst h
                obtain ⟨h1, h2⟩ := ih _ _ _ _ hl' (by omega)
                refine ⟨by simp only [List.length_cons]; omega, fun x hx => ?_⟩
                rcases List.mem_cons.1 hx with rfl | hx
                · exact ⟨Nat.le_refl _, by show a < a + (r.length + 1); omega⟩
                · have := h2 x hx
                  simp only [List.length_drop, List.length_cons] at this hle
                  omega
              · cases h
            · cases h

theorem same_refl : ∀ (l : List Tok), sameB l l 0 = true
  | [] => rfl
  | x :: l => by simp [sameB, same_refl l]

theorem matches_ref (s : List UInt8) : F3 9000 [.str s] = some (.bool true) := by
  unfold F3 S3_1
  simp only [head_N, bind_mk, gB_mk]
  by_cases h : (s.length : Int) > 10000
  · rw [decide_eq_true h]; rfl
  · rw [decide_eq_false h, cond_f, F10_eq, F11_eq]
    cases hq : lexF s with
    | ok l =>
      have hb : l.length ≤ 2000 ∧ ∀ x ∈ l, x.at_ ≤ 100000 := by
        unfold lexF at hq
        split at hq
        · cases hq
        · obtain ⟨h1, h2⟩ := lex_at _ _ _ _ _ hq (by omega)
          exact ⟨by omega, fun x hx => by have := h2 x hx; omega⟩
      have hF := F12_eq l l false false 0 (by omega) (by omega) hb.2
      rw [same_refl] at hF
      simp only [lexD, bind_mk, gT_mk, gC_mk, gL_mk, gI_mk, gE_mk, cond_t]
      rw [show ((0 : Nat) : Int) = 0 from rfl] at hF
      rw [hF]; rfl
    | error e =>
      have hF := F12_eq [] [] true true 0 (by omega) (by simp) (by simp)
      rw [show sameB [] [] 0 = true from rfl, show ((0 : Nat) : Int) = 0 from rfl] at hF
      simp only [lexD, bind_mk, gT_mk, gC_mk, gL_mk, gI_mk, gE_mk, cond_t]
      rw [show F12 9000 [.lst 4 0 [] true, .lst 4 0 [] true, .int .i64 0] = some (.bool true) from hF]
      simp only [bind_mk, gB_mk, cond_t, beq_self_eq_true]

theorem lexerMatchesReference_true {H : Type} (ds : List (DataW H)) (xs : List D) (h : Ty.Args [.str] ds xs) : exF F3 xs = some (.bool true) := by
  obtain ⟨e1, dr1, x1, xr1, q1, rfl, a1, q3, rfl⟩ := h
  obtain ⟨l, rfl, _⟩ := arg_str a1
  exact exF_of (matches_ref l)

end Go.Proofs.YtgkjmdbjncnlpaaDoor
