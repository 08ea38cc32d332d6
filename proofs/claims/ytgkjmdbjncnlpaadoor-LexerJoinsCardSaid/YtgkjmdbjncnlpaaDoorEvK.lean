/- What each operation of the machine does, in the abstract operations' words: append, make, literals of slices. -/
import Derived.Test.YtgkjmdbjncnlpaaDoorEvJ
namespace Go.Ev
set_option linter.unusedVariables false
set_option linter.unusedSimpArgs false

section
variable {P : Program} {μ : Mu} {S : Stab} {h : List Blk} {w : World}

/-- Cells written in the room behind a growing list. -/
theorem ok_slackCells : ∀ (vs : List Value) {w : World} (i : Inv μ S h w) {k sz n o j : Nat}, h[k]? = some (.tip sz n) → 0 < n → n * sz ≤ o → (∀ v ∈ vs, cellVal v) → o + j + vs.length ≤ (μ k).cap * sz →
    ∃ w', (storeCells ⟨(μ k).blk, o, none⟩ vs j).run P w = .ok () w' ∧ Tr μ S h w μ S h w' ∧ (∀ (l : Nat) v, vs[l]? = some v → w'.cell? ⟨(μ k).blk, o + j + l, none⟩ = some v) ∧
      (∀ l, l < o + j → w'.cell? ⟨(μ k).blk, l, none⟩ = w.cell? ⟨(μ k).blk, l, none⟩)
  | [], w, i, k, sz, n, o, j, hk, hp, ho, hv, hl => ⟨w, by simp [storeCells], Tr.refl i, fun l v e => by simp at e, fun _ _ => rfl⟩
  | v :: vs, w, i, k, sz, n, o, j, hk, hp, ho, hv, hl => by
    have hcv : cellVal v := hv v (List.mem_cons_self ..)
    have t1 := tr_slack (v := v) i hk hp (show n * sz ≤ o + j by omega)
    obtain ⟨cells, el, hb, hcap, hn⟩ := i.bl k _ hk hp
    have hlt : o + j < cells.size := by simp only [List.length_cons] at hl; omega
    have hcell : w.cell? ⟨(μ k).blk, o + j, none⟩ = some cells[o + j] := by rw [cell_of_row _ _ _ _ _ _ hb]; simp [hlt]
    have hfr := frozen_of_row _ _ (o + j) _ _ hb
    obtain ⟨w', h1, t2, h3, h4⟩ := ok_slackCells vs t1.inv (j := j + 1) hk hp ho (fun u hu => hv u (List.mem_cons_of_mem _ hu)) (by simp only [List.length_cons] at hl; omega)
    refine ⟨w', ?_, t1.trans t2, ?_, ?_⟩
    · simp only [storeCells, Sem.run_bind, Addr.add_plain]
      rw [run_store P w _ _ _ (oneCell_of hcv)]
      simp only [hcell, hfr]
      simpa using h1
    · intro l u e
      cases l with
      | zero =>
        simp at e; subst e
        rw [show o + j + 0 = o + j by omega, h4 (o + j) (by omega)]
        exact World.cell?_setCell_same w _ v hcell
      | succ l =>
        rw [show o + j + (l + 1) = o + (j + 1) + l by omega]
        exact h3 l u (by simpa using e)
    · intro l hl'
      rw [h4 l (by omega), World.cell?_setCell_other]
      intro q; injection q with q1 q2; omega

/-- An append that must make a new row. -/
theorem run_grow {t xt el ty : TypeId} {inf : TypeInfo} {z : Value} {base : Option Addr} {n cap m : Nat} {x : Value} {olds news : List Value}
    (ht : P.underlying t = some (.slice el)) (hx : (∃ e', P.underlying xt = some (.slice e')) ∨ P.underlying xt = some .string) (hi : P.info? el = some inf) (hz : inf.zero = some z)
    (hlen : Builtin.lenOf x = pure m) (hnew : ∀ w' : World, w'.heap = w.heap → (Builtin.firstCells inf.size m x).run P w' = .ok news.toArray w')
    (hold : ∀ w' : World, w'.heap = w.heap → (Builtin.firstCells inf.size n (.slice base n cap)).run P w' = .ok olds.toArray w')
    (hg : cap < n + m) (hb : (n + m) * inf.bytes ≤ 140737488355328) (hm : n + m ≤ 9223372036854775807) :
    (Builtin.append_ #[t, xt] ty #[.slice base n cap, x]).run P w =
      .ok (.slice (some ⟨w.heap.size, 0, none⟩) (n + m) (grownCap w (n + m) cap el))
        (w.drew.alloc (.cells (olds ++ news ++ (Builtin.zeroCells z.cells (grownCap w (n + m) cap el - (n + m))).toList).toArray el)) := by
  have hn : ¬ (n + m ≤ cap) := by omega
  have h63' : ¬ (9223372036854775807 < ((n : Int) + (m : Int))) := by omega
  have hfit := growslice_fits hg hb
  have h48' : ¬ (281474976710656 < Builtin.nextslicecap (n + m) cap * inf.bytes) := by omega
  have hf := hnew w.drew rfl
  have hfo := hold w.drew rfl
  rcases hx with ⟨e', hd⟩ | hd
  · simp [Builtin.append_, run_underlying ht, run_underlying hd, sizeOf, typeInfo, zeroValue, hi, hz, hlen, hn, h63', h48', Question.forced, hf, hfo, newRow, grownCap]
    try (congr 2; apply Array.ext'; simp [List.append_assoc])
  · simp [Builtin.append_, run_underlying ht, run_underlying hd, sizeOf, typeInfo, zeroValue, hi, hz, hlen, hn, h63', h48', Question.forced, hf, hfo, newRow, grownCap]
    try (congr 2; apply Array.ext'; simp [List.append_assoc])

/-- An append within the room. -/
theorem run_room {t xt el ty : TypeId} {inf : TypeInfo} {base : Option Addr} {n cap m : Nat} {x : Value} {news : List Value} {w' : World}
    (ht : P.underlying t = some (.slice el)) (hx : (∃ e', P.underlying xt = some (.slice e')) ∨ P.underlying xt = some .string) (hi : P.info? el = some inf)
    (hlen : Builtin.lenOf x = pure m) (hnew : (Builtin.firstCells inf.size m x).run P w = .ok news.toArray w) (hg : n + m ≤ cap)
    (hst : ∀ a, base = some a → (storeCells (a.add (n * inf.size)) news).run P w = .ok () w') (hno : base = none → w' = w) :
    (Builtin.append_ #[t, xt] ty #[.slice base n cap, x]).run P w = .ok (.slice base (n + m) cap) w' := by
  rcases hx with ⟨e', hd⟩ | hd <;> cases base
  all_goals first
    | (obtain rfl := hno rfl; simp [Builtin.append_, run_underlying ht, run_underlying hd, sizeOf, typeInfo, hi, hlen, hg, hnew]; done)
    | (rename_i a; have := hst a rfl; simp [Builtin.append_, run_underlying ht, run_underlying hd, sizeOf, typeInfo, hi, hlen, hg, hnew, this]; done)

/-- An append. -/
theorem ok_app (i : Inv μ S h w) {t xt el ty : TypeId} {inf : TypeInfo} {z : D} {zc : List D} {a v : V} {x y : Value} {m : Nat} {ys : List D} {h' : List Blk}
    (ht : P.underlying t = some (.slice el)) (hxt : srcT P xt = true) (hi : P.info? el = some inf) (hz : zeroT P el = some z) (hzc : z.cellsOf = some zc) (hsz : zc.length = inf.size)
    (e : appV inf.size inf.bytes h a m ys = some (v, h')) (ra : V.rel μ S h a x) {vs : List Value} (r1 : D.rels S ys vs) (r2 : Builtin.lenOf y = pure m)
    (r3 : ∀ w' : World, (∀ b o u, S b o = some u → w'.cell? ⟨b, o, none⟩ = some u) → (Builtin.firstCells inf.size m y).run P w' = .ok vs.toArray w') (r4 : ∀ u ∈ vs, cellVal u) :
    ∃ q μ' S' w', (Builtin.append_ #[t, xt] ty #[x, y]).run P w = .ok q w' ∧ Tr μ S h w μ' S' h' w' ∧ V.rel μ' S' h' v q := by
  have hx : (∃ e', P.underlying xt = some (.slice e')) ∨ P.underlying xt = some .string := by
    unfold srcT at hxt
    split at hxt
    · exact .inl ⟨_, by assumption⟩
    · exact .inr (by assumption)
    · cases hxt
  obtain ⟨zv, hz1, hz2, hz3⟩ := run_zeroValue hz S w
  have hz4 := hz3 inf hi
  obtain ⟨zvs, hz5, hz6, hz7⟩ := D.cellsOf_rel hzc hz2
  have hzl : zv.cells.size = inf.size := by rw [hz5]; simp [← D.rels_length hz6, hsz]
  have hrest : ∀ k, (Builtin.zeroCells zv.cells k).toList.length = k * inf.size := fun k => by
    have := size_zeroCells zv.cells k
    simp only [Array.length_toList]; rw [this, hzl]
  have hnewst := r3 w (fun b o u q => (i.st b o u q).1)
  have hnew : ∀ w' : World, w'.heap = w.heap → (Builtin.firstCells inf.size m y).run P w' = .ok vs.toArray w' := fun w' q => r3 w' (fun b o u hs => by
    have := (i.st b o u hs).1
    simp only [World.cell?, q] at *; exact this)
  have hvl := D.rels_length r1
  unfold appV at e
  split at e
  · cases e
  · rename_i hc
    have hc1 : ys.all cellD = true := by
      cases q : ys.all cellD with
      | true => rfl
      | false => exact absurd (.inl q) hc
    have hc2 : ys.length = m * inf.size := by
      by_cases q : ys.length = m * inf.size
      · exact q
      · exact absurd (.inr q) hc
    have tdr := tr_drew i
    split at e
    · -- nil
      have hx0 : x = .slice none 0 0 := ra
      subst hx0
      split at e
      · rename_i hb
        by_cases hm : m = 0
        · subst hm
          injection e with e; injection e with e1 e2; subst e1; subst e2
          have hys : ys = [] := List.length_eq_zero_iff.1 (by simpa using hc2)
          subst hys
          have t := tr_ghost i inf.size
          exact ⟨_, μ, S, w, run_room (w' := w) ht hx hi r2 hnewst (Nat.le_refl 0) (fun a q => by cases q) (fun _ => rfl), t, by simp, none, 0, rfl, Nat.le_refl _, by simp, .inl ⟨rfl, rfl⟩⟩
        · injection e with e; injection e with e1 e2; subst e1; subst e2
          have hrun := run_grow (P := P) (w := w) (ty := ty) (base := none) (n := 0) (cap := 0) (olds := []) ht hx hi hz4 r2 hnew (fun w' _ => by simp [Builtin.firstCells]) (by omega) (by simpa using hb.1) (by simpa using hb.2)
          simp only [Nat.zero_add] at hrun
          have hcap := grownCap_ge w m 0 el
          obtain ⟨S', t2, hat⟩ := tr_tip_new tdr.inv inf.size m (grownCap w m 0 el) ys vs (Builtin.zeroCells zv.cells (grownCap w m 0 el - m)).toList el r1 r4 hc2 hcap (by
            simp only [List.length_append, hrest, ← hvl, hc2]
            rw [← Nat.add_mul]; congr 1; omega)
          refine ⟨_, μ.upd h.length ⟨w.heap.size, grownCap w m 0 el⟩, S', _, hrun, ?_, ?_⟩
          · exact tdr.trans t2
          · refine ⟨by simp, _, grownCap w m 0 el, rfl, hcap, hc2, .inr ⟨by omega, w.heap.size, rfl, hat, fun k hk => ?_⟩⟩
            have hk' : m = k := by simpa using hk
            subst hk'
            exact ⟨Nat.le_refl _, fun _ => by rw [Mu.upd_same]; exact ⟨rfl, rfl⟩⟩
      · cases e
    · -- a firm list
      rename_i sz' n cells ex
      split at e
      · rename_i hex
        obtain ⟨hs', hex⟩ := hex
        subst hs'
        have ra' := ra
        obtain ⟨base, cap, rfl, q1, q2, q3, q4⟩ := ra
        have hcap := q2 hex
        subst hcap
        split at e
        · rename_i hm
          obtain ⟨hn0, hm⟩ := hm
          subst hm
          injection e with e; injection e with e1 e2; subst e1; subst e2
          have hvs : vs = [] := by
            have : vs.length = 0 := by rw [← hvl, hc2]; simp
            exact List.length_eq_zero_iff.1 this
          subst hvs
          exact ⟨_, μ, S, w, run_room (w' := w) ht hx hi r2 hnewst (Nat.le_refl _) (fun a q => by simp [storeCells]) (fun q => rfl), Tr.refl i, base, cap, rfl, q1, q2, q3, q4⟩
        · rename_i hm
          split at e
          · rename_i hb
            injection e with e; injection e with e1 e2; subst e1; subst e2
            by_cases hz0 : m = 0
            · subst hz0
              have hc0 : cap = 0 := by
                by_cases q : cap = 0
                · exact q
                · exact absurd ⟨q, rfl⟩ hm
              subst hc0
              have hvs : vs = [] := by
                have : vs.length = 0 := by rw [← hvl, hc2]; simp
                exact List.length_eq_zero_iff.1 this
              have hys : ys = [] := List.length_eq_zero_iff.1 (by simpa using hc2)
              have hcells : cells = [] := List.length_eq_zero_iff.1 (by simpa using q3)
              subst hvs; subst hys; subst hcells
              have t := tr_ghost i inf.size
              exact ⟨_, μ, S, w, run_room (w' := w) ht hx hi r2 hnewst (Nat.le_refl _) (fun a q => by simp [storeCells]) (fun q => rfl), t, by simp, base, 0, rfl, Nat.le_refl _, by simp, .inl ⟨rfl, rfl⟩⟩
            obtain ⟨us, s1, _, s3, s4⟩ := list?_rel (v := .d (.lst inf.size cap cells ex)) rfl ra' i inf.size q3
            have hul := D.rels_length s1
            have hold : ∀ w' : World, w'.heap = w.heap → (Builtin.firstCells inf.size cap (.slice base cap cap)).run P w' = .ok us.toArray w' := fun w' q => s3 w' (fun b o u hs => by
              have := (i.st b o u hs).1
              simp only [World.cell?, q] at *; exact this)
            have hrun := run_grow (P := P) (w := w) (ty := ty) (olds := us) ht hx hi hz4 r2 hnew hold (by omega) hb.1 hb.2
            have hcap := grownCap_ge w (cap + m) cap el
            have hcv : ∀ u ∈ us ++ vs, cellVal u := by
              intro u hu
              rcases List.mem_append.1 hu with hu | hu
              · exact s4 u hu
              · exact r4 u hu
            obtain ⟨S', t2, hat⟩ := tr_tip_new tdr.inv inf.size (cap + m) (grownCap w (cap + m) cap el) (cells ++ ys) (us ++ vs) (Builtin.zeroCells zv.cells (grownCap w (cap + m) cap el - (cap + m))).toList el
              (D.rels_append s1 r1) hcv (by simp only [List.length_append, q3, hc2, Nat.add_mul]) hcap (by
                simp only [List.length_append, hrest, ← hvl, ← hul, hc2, q3]
                rw [← Nat.add_mul, ← Nat.add_mul]; congr 1; omega)
            refine ⟨_, μ.upd h.length ⟨w.heap.size, grownCap w (cap + m) cap el⟩, S', _, hrun, ?_, ?_⟩
            · exact tdr.trans t2
            · refine ⟨by simp, _, grownCap w (cap + m) cap el, rfl, hcap, by simp only [List.length_append, q3, hc2, Nat.add_mul], .inr ⟨by omega, w.heap.size, rfl, hat, fun k hk => ?_⟩⟩
              have hk' : cap + m = k := by simpa using hk
              subst hk'
              exact ⟨Nat.le_refl _, fun _ => by rw [Mu.upd_same]; exact ⟨rfl, rfl⟩⟩
          · cases e
      · cases e
    · -- a list that grows
      rename_i id sz' n cells
      have ra' := ra
      obtain ⟨hid, base, cap, rfl, q1, q2, qb⟩ := ra
      split at e
      · rename_i sz'' n' htip
        split at e
        · rename_i hcond
          obtain ⟨c1, c2, c3, c4, c5⟩ := hcond
          subst c1; subst c2; subst c3
          injection e with e; injection e with e1 e2; subst e1; subst e2
          rcases qb with ⟨h0, hc0⟩ | ⟨hp, b, rfl, q3, q4⟩
          · -- its row is not made yet
            subst h0; subst hc0
            have hcells : cells = [] := List.length_eq_zero_iff.1 (by simpa using q2)
            subst hcells
            by_cases hm0 : m = 0
            · subst hm0
              have hvs : vs = [] := by
                have : vs.length = 0 := by rw [← hvl, hc2]; simp
                exact List.length_eq_zero_iff.1 this
              have hys : ys = [] := List.length_eq_zero_iff.1 (by rw [hc2]; simp)
              subst hvs; subst hys
              have hset : h.set id (.tip inf.size (0 + 0)) = h := by
                apply List.ext_getElem?; intro j
                rw [List.getElem?_set]
                split
                · rename_i q; subst q
                  rw [htip]
                · rfl
              rw [hset]
              exact ⟨_, μ, S, w, run_room (w' := w) ht hx hi r2 hnewst (Nat.le_refl _) (fun a q => by simp [storeCells]) (fun q => rfl), Tr.refl i, hid, base, 0, rfl, Nat.le_refl _, by simp, .inl ⟨rfl, rfl⟩⟩
            · have hold : ∀ w' : World, w'.heap = w.heap → (Builtin.firstCells inf.size 0 (.slice base 0 0)).run P w' = .ok ([] : List Value).toArray w' := fun w' q => by
                cases base <;> (simp [Builtin.firstCells]; try rfl)
              have hrun := run_grow (P := P) (w := w) (ty := ty) (olds := []) ht hx hi hz4 r2 hnew hold (by omega) c4 c5
              have hcap := grownCap_ge w (0 + m) 0 el
              obtain ⟨S', t2, hat⟩ := tr_move tdr.inv (k := id) (m := m) (cap := grownCap w (0 + m) 0 el) (ds := [] ++ ys) (vals := [] ++ vs) (rest := (Builtin.zeroCells zv.cells (grownCap w (0 + m) 0 el - (0 + m))).toList) (el := el)
                htip (by omega) (by simpa using r1) (by simpa using r4) (by simp only [List.nil_append, hc2, Nat.zero_add]) hcap (by
                  simp only [List.nil_append, List.length_append, hrest, ← hvl, hc2]
                  rw [← Nat.add_mul]; congr 1; omega)
              refine ⟨_, μ.upd id ⟨w.heap.size, grownCap w (0 + m) 0 el⟩, S', _, hrun, ?_, ?_⟩
              · exact tdr.trans t2
              · refine ⟨by simpa using hid, _, grownCap w (0 + m) 0 el, rfl, hcap, by simp only [List.nil_append, hc2, Nat.zero_add], .inr ⟨by omega, w.heap.size, rfl, hat, fun k hk => ?_⟩⟩
                rw [List.getElem?_set_self hid] at hk
                injection hk with hk; injection hk with _ hk; subst hk
                exact ⟨Nat.le_refl _, fun _ => by rw [Mu.upd_same]; exact ⟨rfl, rfl⟩⟩
          obtain ⟨p1, p2⟩ := q4 _ htip
          obtain ⟨p3, p4⟩ := p2 rfl
          subst p3; subst p4
          by_cases hroom : n' + m ≤ (μ id).cap
          · obtain ⟨w', g1, g2, g3, g4⟩ := ok_slackCells (P := P) vs i (o := n' * inf.size) (j := 0) htip hp (Nat.le_refl _) r4 (by
              rw [← hvl, hc2]
              have := Nat.mul_le_mul_right inf.size hroom
              rw [Nat.add_mul] at this; omega)
            obtain ⟨S', t2, hat⟩ := tr_ext g2.inv (k := id) (m := m) htip hp r1 hc2 hroom (fun j u hu => ⟨by simpa using g3 j u hu, r4 u (List.mem_of_getElem? hu)⟩)
            have tt := g2.trans t2
            refine ⟨_, μ, S', w', run_room (w' := w') ht hx hi r2 hnewst hroom (fun a q => by
              injection q with q; subst q; rw [Addr.add_plain, Nat.zero_add]; exact g1) (fun q => by cases q), tt, by simpa using hid, _, (μ id).cap, rfl, hroom, by simp only [List.length_append, q2, hc2, Nat.add_mul], .inr ⟨by omega, (μ id).blk, rfl, ?_, fun k hk => ?_⟩⟩
            · exact D.relAt_append (D.relAt_mono tt.kp.sub _ _ _ q3) (by rw [Nat.zero_add, q2]; exact hat)
            · rw [List.getElem?_set_self hid] at hk
              injection hk with hk; injection hk with _ hk; subst hk
              exact ⟨Nat.le_refl _, fun _ => ⟨rfl, rfl⟩⟩
          · obtain ⟨us, s1, _, s3, s4⟩ := list?_rel (v := .gs id inf.size n' cells) rfl ra' i inf.size q2
            have hul := D.rels_length s1
            have hold : ∀ w' : World, w'.heap = w.heap → (Builtin.firstCells inf.size n' (.slice (some ⟨(μ id).blk, 0, none⟩) n' (μ id).cap)).run P w' = .ok us.toArray w' := fun w' q => s3 w' (fun b o u hs => by
              have := (i.st b o u hs).1
              simp only [World.cell?, q] at *; exact this)
            have hrun := run_grow (P := P) (w := w) (ty := ty) (olds := us) ht hx hi hz4 r2 hnew hold (by omega) c4 c5
            have hcap := grownCap_ge w (n' + m) (μ id).cap el
            have hcv : ∀ u ∈ us ++ vs, cellVal u := by
              intro u hu
              rcases List.mem_append.1 hu with hu | hu
              · exact s4 u hu
              · exact r4 u hu
            obtain ⟨S', t2, hat⟩ := tr_move tdr.inv (k := id) (m := m) (cap := grownCap w (n' + m) (μ id).cap el) (ds := cells ++ ys) (vals := us ++ vs) (rest := (Builtin.zeroCells zv.cells (grownCap w (n' + m) (μ id).cap el - (n' + m))).toList) (el := el)
              htip (by omega) (D.rels_append s1 r1) hcv (by simp only [List.length_append, q2, hc2, Nat.add_mul]) hcap (by
                simp only [List.length_append, hrest, ← hvl, ← hul, hc2, q2]
                rw [← Nat.add_mul, ← Nat.add_mul]; congr 1; omega)
            refine ⟨_, μ.upd id ⟨w.heap.size, grownCap w (n' + m) (μ id).cap el⟩, S', _, hrun, ?_, ?_⟩
            · exact tdr.trans t2
            · refine ⟨by simpa using hid, _, grownCap w (n' + m) (μ id).cap el, rfl, hcap, by simp only [List.length_append, q2, hc2, Nat.add_mul], .inr ⟨by omega, w.heap.size, rfl, hat, fun k hk => ?_⟩⟩
              rw [List.getElem?_set_self hid] at hk
              injection hk with hk; injection hk with _ hk; subst hk
              exact ⟨Nat.le_refl _, fun _ => by rw [Mu.upd_same]; exact ⟨rfl, rfl⟩⟩
        · cases e
      · cases e
    · cases e

end
end Go.Ev
