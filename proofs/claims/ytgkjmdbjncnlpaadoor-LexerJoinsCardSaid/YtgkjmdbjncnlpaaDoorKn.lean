/- What the lexer answers, in plain lists of bytes. -/
import Derived.Test.YtgkjmdbjncnlpaaDoorKm
namespace Go.Proofs.YtgkjmdbjncnlpaaDoor
open Go.Ev
set_option linter.unusedVariables false
set_option linter.unusedSimpArgs false
set_option maxRecDepth 100000

theorem wrN {i k : Nat} (h : i + k ≤ 1000000) : IntKind.i64.wrap ((i : Int) + (k : Int)) = ((i + k : Nat) : Int) := by rw [wrap64_in (by omega) (by omega)]; rfl

theorem lex_loop {ρ : Type} (s : List UInt8) (hl : s.length ≤ 8000) (k0 : Int → Int → Nat → Option ρ) (hk : ∀ e a c, k0 e a c = k0 e a 0) (k1 : Nat → List D → Int → Nat → Option ρ) (hk1 : ∀ n c a t, k1 n c a t = k1 n c 0 0) :
    ∀ (f : Nat) (r pre : List UInt8) (cnt : Nat) (cells : List D), s = pre ++ r → r.length < f → cnt ≤ 2000 →
    L10_6 9000 f s cnt cells pre.length cnt k0 k1 = match lexS f r pre.length cnt with
      | .ok l => k1 (cnt + l.length) (cells ++ toksD l) 0 0
      | .error e => k0 e.1 e.2 0 := by
  intro f
  induction f with
  | zero => intro r pre cnt cells _ h; omega
  | succ f ih =>
    intro r pre cnt cells hs hf hc
    have hpl : pre.length + r.length ≤ 8000 := by subst hs; simpa using hl
    show S10_2 9000 s cnt cells pre.length cnt (fun x1 x2 x3 x4 => L10_6 9000 f s x1 x2 x3 x4 k0 k1) (fun x1 => k0 x1 pre.length cnt) (k1 cnt cells pre.length cnt) = _
    unfold S10_2
    cases r with
    | nil =>
      rw [step_out (by subst hs; simp)]
      show _ = k1 (cnt + 0) (cells ++ toksD []) 0 0
      rw [hk1]; simp [toksD]
    | cons c r =>
      have hg : s[pre.length]? = some c := by subst hs; simp
      simp only [List.length_cons] at hpl hf
      rw [step_in hg]
      simp only [F18_eq, bind_mk, gI_mk, show kindI (c.toNat : Int) = kindB c from rfl]
      rw [show lexS (f + 1) (c :: r) pre.length cnt = if kindB c = 4 then lexS f r (pre.length + 1) cnt
        else if kindB c = 5 then lexS f ((c :: r).drop ((c :: r).takeWhile isC).length) (pre.length + ((c :: r).takeWhile isC).length) cnt
        else if cnt = 2000 then .error (2, pre.length)
        else if (tokAt (c :: r)).e = 0 then
          match lexS f ((c :: r).drop (tokAt (c :: r)).raw.length) (pre.length + (tokAt (c :: r)).raw.length) (cnt + 1) with
          | .ok l => .ok (⟨(tokAt (c :: r)).k, (tokAt (c :: r)).t, (tokAt (c :: r)).n, pre.length⟩ :: l)
          | .error e => .error e
        else .error ((tokAt (c :: r)).e, pre.length) from rfl]
      by_cases h4 : kindB c = 4
      · rw [if_pos h4, beq_iff_eq.2 h4, cond_t, wr (by omega)]
        have := ih r (pre ++ [c]) cnt cells (by simp [hs]) (by omega) hc
        simpa using this
      · rw [if_neg h4, beq_eq_false_iff_ne.2 h4, cond_f]
        by_cases h5 : kindB c = 5
        · rw [if_pos h5, beq_iff_eq.2 h5, cond_t, comment_loop 9000 s (by omega) _ _ _ (c :: r) pre 9000 hs (by simp; omega)]
          have hk' := takeWhile_le isC (c :: r)
          have hne : isC c = true := by
            unfold isC
            rw [bne_iff_ne]
            intro e
            unfold kindB at h5
            rw [e] at h5
            exact absurd h5 (by decide)
          have hp1 : 1 ≤ ((c :: r).takeWhile isC).length := by simp [List.takeWhile_cons, hne]
          unfold S10_5
          rw [slice_ok hs hk', slice_ok2, slice_eq hs, take_takeWhile]
          simp only [ass_mk]
          generalize hkk : ((c :: r).takeWhile isC).length = k at *
          simp only [List.length_cons] at hk'
          rw [wrN (by omega)]
          have := ih ((c :: r).drop k) (pre ++ (c :: r).take k) cnt cells (by rw [hs]; exact app_split _ _ _) (by simp; omega) hc
          rw [List.length_append, List.length_take, Nat.min_eq_left (by simpa using hk')] at this
          exact this
        · rw [if_neg h5, beq_eq_false_iff_ne.2 h5, cond_f]
          by_cases h2 : cnt = 2000
          · rw [if_pos h2, beq_iff_eq.2 (by omega), cond_t]
            exact hk _ _ _
          · rw [if_neg h2, beq_eq_false_iff_ne.2 (by omega), cond_f, F21_eq hs hl]
            unfold tkD
            have hrl := raw_le (c :: r)
            have hrp := raw_pre (c :: r)
            have hpos := @raw_pos c r
            generalize tokAt (c :: r) = T at *
            simp only [bind_mk, gT_mk, gC_mk, gA_mk, gI_mk, gS_mk, gE_mk]
            by_cases h0 : T.e = 0
            · have hpos := hpos h0
              rw [if_pos h0, bne_eq_false_iff_eq.2 h0, cond_f]
              have e1 : (cnt == cnt && (decide ((cnt + 1) * 40 ≤ 140737488355328) && decide (cnt + 1 ≤ 9223372036854775807))) = true := by
                rw [beq_self_eq_true, decide_eq_true (by omega), decide_eq_true (by omega)]; rfl
              rw [e1, ass_mk]
              generalize hkk : T.raw.length = k at *
              simp only [List.length_cons] at hrl
              rw [wrN (by omega)]
              have := ih ((c :: r).drop k) (pre ++ (c :: r).take k) (cnt + 1) (cells ++ [.int .i64 T.k, .str T.t, .int .i64 T.n, .int .i64 pre.length]) (by rw [hs]; exact app_split _ _ _) (by simp; omega) (by omega)
              rw [List.length_append, List.length_take, Nat.min_eq_left (by simpa using hrl)] at this
              rw [this]
              cases lexS f ((c :: r).drop k) (pre.length + k) (cnt + 1) with
              | ok l =>
                simp only [List.length_cons, toksD, List.flatMap_cons, Tok.cells, List.append_assoc]
                rw [show cnt + 1 + l.length = cnt + (l.length + 1) by omega]
              | error e => rfl
            · rw [if_neg h0, bne_iff_ne.2 h0, cond_t]
              exact hk _ _ _

/-- What Lex answers. -/
def lexD (q : Except (Int × Nat) (List Tok)) : D := match q with
  | .ok l => .tup [.lst 4 l.length (toksD l) false, .int .i64 0, .int .i64 0]
  | .error e => .tup [.lst 4 0 [] true, .int .i64 e.1, .int .i64 e.2]

def lexF (s : List UInt8) : Except (Int × Nat) (List Tok) := if 8000 < s.length then .error (2, 0) else lexS 9000 s 0 0

theorem F10_eq (s : List UInt8) : F10 9000 [.str s] = some (lexD (lexF s)) := by
  unfold F10 S10_1 lexF
  by_cases h : 8000 < s.length
  · rw [if_pos h]
    simp only []
    rw [decide_eq_true (by omega)]; rfl
  · rw [if_neg h]
    simp only []
    rw [decide_eq_false (by omega), cond_f]
    have := lex_loop (ρ := D) s (by omega) (fun x1 x2 x3 => S10_7 9000 x1 x2 x3 (some (.tup [.lst 4 0 [] true, .int .i64 x1, .int .i64 x2]))) (fun _ _ _ => rfl)
      (fun x4 x5 x6 x7 => S10_8 9000 s x4 x5 x6 x7 (some (.tup [.lst 4 x4 x5 false, .int .i64 0, .int .i64 0]))) (fun _ _ _ _ => rfl) 9000 s [] 0 [] rfl (by omega) (by omega)
    refine Eq.trans this ?_
    show (match lexS 9000 s 0 0 with | .ok l => _ | .error e => _) = _
    cases lexS 9000 s 0 0 with
    | ok l => simp only [Nat.zero_add, List.nil_append]; rfl
    | error e => rfl

end Go.Proofs.YtgkjmdbjncnlpaaDoor
