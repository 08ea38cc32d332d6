/- The reference lexer answers what the lexer answers. -/
import Derived.Test.YtgkjmdbjncnlpaaDoorKo
namespace Go.Proofs.YtgkjmdbjncnlpaaDoor
open Go.Ev
set_option linter.unusedVariables false
set_option linter.unusedSimpArgs false
set_option maxRecDepth 100000

theorem ref_loop {ρ : Type} (s : List UInt8) (hl : s.length ≤ 8000) (k0 : Int → Int → Nat → Option ρ) (hk : ∀ e a c, k0 e a c = k0 e a 0) (k1 : Nat → List D → Int → Nat → Option ρ) (hk1 : ∀ n c a t, k1 n c a t = k1 n c 0 0) :
    ∀ (f : Nat) (r pre : List UInt8) (cnt : Nat) (cells : List D), s = pre ++ r → r.length < f → cnt ≤ 2000 → gapL false r = 0 →
    L11_3 9000 f s cnt cells pre.length cnt k0 k1 = match lexS f r pre.length cnt with
      | .ok l => k1 (cnt + l.length) (cells ++ toksD l) 0 0
      | .error e => k0 e.1 e.2 0 := by
  intro f
  induction f with
  | zero => intro r pre cnt cells _ h; omega
  | succ f ih =>
    intro r pre cnt cells hs hf hc hgap
    have hpl : pre.length + r.length ≤ 8000 := by subst hs; simpa using hl
    have hsl : s.length = pre.length + r.length := by subst hs; simp
    show S11_2 9000 s cnt cells pre.length cnt (fun x1 => k0 x1 pre.length cnt) (fun x1 x2 x3 => L11_3 9000 f s x1 x2 x3 x1 k0 k1) (k1 cnt cells pre.length cnt) = _
    unfold S11_2
    cases r with
    | nil =>
      rw [decide_eq_false (by simp at hsl; omega), cond_f]
      show _ = k1 (cnt + 0) (cells ++ toksD []) 0 0
      rw [hk1]; simp [toksD]
    | cons c r =>
      have hz := gap_zero hgap
      simp only [List.length_cons] at hpl hf hsl
      rw [decide_eq_true (by omega), cond_t]
      rw [show lexS (f + 1) (c :: r) pre.length cnt = if kindB c = 4 then lexS f r (pre.length + 1) cnt
        else if kindB c = 5 then lexS f ((c :: r).drop ((c :: r).takeWhile isC).length) (pre.length + ((c :: r).takeWhile isC).length) cnt
        else if cnt = 2000 then .error (2, pre.length)
        else if (tokAt (c :: r)).e = 0 then
          match lexS f ((c :: r).drop (tokAt (c :: r)).raw.length) (pre.length + (tokAt (c :: r)).raw.length) (cnt + 1) with
          | .ok l => .ok (⟨(tokAt (c :: r)).k, (tokAt (c :: r)).t, (tokAt (c :: r)).n, pre.length⟩ :: l)
          | .error e => .error e
        else .error ((tokAt (c :: r)).e, pre.length) from rfl]
      rw [if_neg hz.1, if_neg hz.2]
      by_cases h2 : cnt = 2000
      · rw [if_pos h2, beq_iff_eq.2 (by omega), cond_t]
        exact hk _ _ _
      · rw [if_neg h2, beq_eq_false_iff_ne.2 (by omega), cond_f, F16_eq hs hl]
        simp only [bind_mk, gI_mk]
        by_cases he : endL (c :: r) = 0
        · have h3 := end_zero.1 he
          rw [beq_iff_eq.2 (by omega), cond_t]
          have hT : tokAt (c :: r) = ⟨0, [], 0, [], 7⟩ := by rw [tokAt_cons, if_neg h3.1, if_neg h3.2.1, if_neg h3.2.2]
          rw [hT]
          exact hk _ _ _
        · rw [beq_eq_false_iff_ne.2 (by omega), cond_f]
          have hle := end_le (c :: r)
          rw [slice_ok hs hle, slice_ok2, slice_eq hs, F22_eq (by simp; omega) he]
          unfold rtkD
          have hraw := @end_raw c r
          generalize tokAt (c :: r) = T at *
          simp only [ass_mk, bind_mk, gT_mk, gC_mk, gA_mk, gI_mk, gS_mk, gE_mk]
          by_cases h0 : T.e = 0
          · have hraw := hraw h0
            rw [if_pos h0, bne_eq_false_iff_eq.2 h0, cond_f, hraw]
            have e1 : (cnt == cnt && (decide ((cnt + 1) * 40 ≤ 140737488355328) && decide (cnt + 1 ≤ 9223372036854775807))) = true := by
              rw [beq_self_eq_true, decide_eq_true (by omega), decide_eq_true (by omega)]; rfl
            rw [e1, ass_mk]
            generalize hkk : endL (c :: r) = k at *
            simp only [List.length_cons] at hle
            have hs2 : s = (pre ++ (c :: r).take k) ++ (c :: r).drop k := by rw [hs]; exact app_split _ _ _
            have hp2 : (pre ++ (c :: r).take k).length = pre.length + k := by rw [List.length_append, List.length_take, Nat.min_eq_left (by simpa using hle)]
            have hF := F14_eq hs2 hl
            rw [hp2] at hF
            rw [hF]
            simp only [bind_mk, gI_mk]
            have hd : ((c :: r).drop k).length = r.length + 1 - k := by simp
            rw [lexS_skip 9000 ((c :: r).drop k) (pre.length + k) (cnt + 1) f f (by omega) (by omega) (by omega)]
            have hgd := gap_drop ((c :: r).drop k) false
            have hgl := gap_le ((c :: r).drop k) false
            generalize gapL false ((c :: r).drop k) = g at *
            have := ih (((c :: r).drop k).drop g) ((pre ++ (c :: r).take k) ++ ((c :: r).drop k).take g) (cnt + 1) (cells ++ [.int .i64 T.k, .str T.t, .int .i64 T.n, .int .i64 pre.length]) (by rw [hs2]; exact app_split _ _ _) (by rw [List.length_drop]; omega) (by omega) hgd
            rw [List.length_append, hp2, List.length_take, Nat.min_eq_left hgl] at this
            rw [this]
            cases lexS f (((c :: r).drop k).drop g) (pre.length + k + g) (cnt + 1) with
            | ok l =>
              simp only [List.length_cons, toksD, List.flatMap_cons, Tok.cells, List.append_assoc]
              rw [show cnt + 1 + l.length = cnt + (l.length + 1) by omega]
            | error e => rfl
          · rw [if_neg h0, bne_iff_ne.2 h0, cond_t]
            exact hk _ _ _

theorem F11_eq (s : List UInt8) : F11 9000 [.str s] = some (lexD (lexF s)) := by
  unfold F11 S11_1 lexF
  by_cases h : 8000 < s.length
  · rw [if_pos h]
    simp only []
    rw [decide_eq_true (by omega)]; rfl
  · rw [if_neg h]
    simp only []
    rw [decide_eq_false (by omega), cond_f]
    have hF := F14_eq (s := s) (pre := []) (r := s) rfl (by omega)
    rw [show (([] : List UInt8).length : Int) = 0 from rfl] at hF
    rw [hF]
    simp only [bind_mk, gI_mk, List.length_nil, Nat.zero_add]
    have hgl := gap_le s false
    rw [lexS_skip 9000 s 0 0 9000 9000 (by omega) (by omega) (by omega)]
    have hgd := gap_drop s false
    generalize gapL false s = g at *
    have := ref_loop (ρ := D) s (by omega) (fun x1 x2 x3 => S11_4 9000 x1 x2 x3 (some (.tup [.lst 4 0 [] true, .int .i64 x1, .int .i64 x2]))) (fun _ _ _ => rfl)
      (fun x4 x5 x6 x7 => S11_5 9000 s x4 x5 x6 x7 (some (.tup [.lst 4 x4 x5 false, .int .i64 0, .int .i64 0]))) (fun _ _ _ _ => rfl) 9000 (s.drop g) (s.take g) 0 [] (List.take_append_drop g s).symm (by simp; omega) (by omega) hgd
    rw [List.length_take, Nat.min_eq_left hgl] at this
    rw [Nat.zero_add]
    refine Eq.trans this ?_
    cases lexS 9000 (s.drop g) g 0 with
    | ok l => simp only [Nat.zero_add, List.nil_append]; rfl
    | error e => rfl

end Go.Proofs.YtgkjmdbjncnlpaaDoor
