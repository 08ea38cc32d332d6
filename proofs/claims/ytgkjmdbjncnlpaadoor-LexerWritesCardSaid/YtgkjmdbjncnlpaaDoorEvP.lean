/- Each operation of the machine that is no call of a Go function does what the abstract operation says. -/
import Derived.Test.YtgkjmdbjncnlpaaDoorEvO
namespace Go.Ev
set_option linter.unusedVariables false
set_option linter.unusedSimpArgs false

section
variable {P : Program} {G : Glob} {μ : Mu} {S : Stab} {h : List Blk} {w : World} {ρ : Operand → Value} {ev : RX → V}

theorem OpOK.val {o : Oper} {s : Sem Value} {y : Value} {μ' : Mu} {S' : Stab} {h' : List Blk} {w' : World} {v : V} (he : execOp ρ o = (do pure (Next.value (← s)) : Sem Next)) (hs : s.run P w = .ok y w')
    (t : Tr μ S h w μ' S' h' w') (r : V.rel μ' S' h' v y) : OpOK P o ρ μ S h w v h' :=
  ⟨_, y, μ', S', w', by rw [he]; exact val_of hs, .inl rfl, t, r⟩

set_option maxHeartbeats 1600000 in
theorem ev1_ok (i : Inv μ S h w) (hr : Reads G μ S h ρ ev) {o : Oper} {r : ROp} {v : V} {h' : List Blk} (hc : compOp P G o.op = some r) (he : ev1 r ev h = some (v, h')) :
    OpOK P o ρ μ S h w v h' := by
  obtain ⟨dst, op, type, pos, after, guard⟩ := o
  simp only at hc
  cases op with
  | move x =>
    simp only [compOp, Option.map_eq_some_iff] at hc
    obtain ⟨a, ha, rfl⟩ := hc
    simp only [ev1] at he
    injection he with he; injection he with e1 e2; subst e1; subst e2
    exact ⟨_, ρ x, μ, S, w, rfl, .inl rfl, Tr.refl i, hr.rd x a ha⟩
  | assign x =>
    simp only [compOp, Option.map_eq_some_iff] at hc
    obtain ⟨a, ha, rfl⟩ := hc
    simp only [ev1] at he
    injection he with he; injection he with e1 e2; subst e1; subst e2
    exact ⟨_, ρ x, μ, S, w, rfl, .inl rfl, Tr.refl i, hr.rd x a ha⟩
  | pick c a b =>
    simp only [compOp] at hc
    split at hc
    · rename_i c' a' b' h1 h2 h3
      injection hc with hc; subst hc
      simp only [ev1] at he
      split at he
      · rename_i t ht
        injection he with he; injection he with e1 e2; subst e1; subst e2
        have r1 := hr.rd c c' h1
        rw [ht] at r1
        refine ⟨_, if t then ρ a else ρ b, μ, S, w, ?_, .inl rfl, Tr.refl i, ?_⟩
        · simp only [execOp, Sem.run_bind, show ρ c = _ from r1, asBool, Sem.run_pure, Result.andThen_ok]
        · cases t
          · exact hr.rd b b' h3
          · exact hr.rd a a' h2
      · cases he
    · cases hc
  | alloc t =>
    simp only [compOp, Option.map_eq_some_iff] at hc
    obtain ⟨zc, hz, rfl⟩ := hc
    unfold cellsT at hz
    rw [Option.bind_eq_some_iff] at hz
    obtain ⟨z, hz, hzc⟩ := hz
    simp only [ev1] at he
    injection he with he; injection he with e1 e2; subst e1; subst e2
    obtain ⟨x, μ', w', g1, g2, g3⟩ := ok_alloc (P := P) i hz hzc
    exact OpOK.val rfl g1 g2 g3
  | box t x =>
    simp only [compOp, Option.map_eq_some_iff] at hc
    obtain ⟨a, ha, rfl⟩ := hc
    simp only [ev1] at he
    split at he
    · rename_i cs hcs
      injection he with he; injection he with e1 e2; subst e1; subst e2
      obtain ⟨y, μ', w', g1, g2, g3⟩ := ok_box (P := P) (t := t) i hcs (wid_rel hr (hr.rd x a ha) _)
      exact OpOK.val rfl g1 g2 g3
    · cases he
  | build t parts =>
    simp only [compOp] at hc
    have hparts : (parts.map fun (p : Nat × Operand) => (p.1, ρ p.2)) = (parts.toList.map fun (i, x) => (i, ρ x)).toArray := by apply Array.ext'; simp
    unfold compBuild at hc
    split at hc
    · rename_i fs zero hu hz
      split at hc
      · rename_i places hp
        simp only [Option.map_eq_some_iff] at hc
        obtain ⟨qs, hq, rfl⟩ := hc
        simp only [ev1] at he
        split at he
        · rename_i cs hcs
          injection he with he; injection he with e1 e2; subst e1; subst e2
          obtain ⟨y, g1, g2⟩ := ok_build_struct (P := P) (w := w) hu hz hp (compParts_rel hr _ _ _ _ hq) hcs
          exact OpOK.val (congrArg (fun q => (do pure (Next.value (← Instr.build t q)) : Sem Next)) hparts) g1 (Tr.refl i) g2
        · cases he
      · cases hc
    · rename_i len el zero hu hz
      split at hc
      · rename_i n hn
        simp only [Option.map_eq_some_iff] at hc
        obtain ⟨qs, hq, rfl⟩ := hc
        simp only [ev1] at he
        split at he
        · rename_i cs hcs
          injection he with he; injection he with e1 e2; subst e1; subst e2
          have hq2 : All2 (fun (p : Nat × Value) (q : Nat × Nat × V) => (q.1 = p.1 * n ∧ q.2.1 = n) ∧ V.rel μ S h q.2.2 p.2) (parts.toList.map fun (i, x) => (i, ρ x)) (qs.map fun (a, b, x) => (a, b, ev x)) := by
            have := compParts_rel hr _ _ _ _ hq
            revert this
            generalize (parts.toList.map fun (i, x) => (i, ρ x)) = A
            generalize (qs.map fun (a, b, x) => (a, b, ev x)) = B
            intro hh
            clear hcs
            induction hh with
            | nil => exact .nil
            | cons a _ ih =>
              refine .cons ⟨?_, a.2⟩ ih
              have := a.1
              injection this with this
              injection this with q1 q2
              exact ⟨q1.symm, q2.symm⟩
          obtain ⟨y, g1, g2⟩ := ok_build_array (P := P) (w := w) hu hz hn hq2 hcs
          exact OpOK.val (congrArg (fun q => (do pure (Next.value (← Instr.build t q)) : Sem Next)) hparts) g1 (Tr.refl i) g2
        · cases he
      · cases hc
    · cases hc
  | buildSlice t len parts =>
    simp only [compOp] at hc
    have hparts : (parts.map fun (p : Nat × Operand) => (p.1, ρ p.2)) = (parts.toList.map fun (i, x) => (i, ρ x)).toArray := by apply Array.ext'; simp
    unfold compBs at hc
    split at hc
    · rename_i el hu
      split at hc
      · rename_i zc n hzc hn
        split at hc
        · rename_i hcond
          simp only [Option.map_eq_some_iff] at hc
          obtain ⟨qs, hq, rfl⟩ := hc
          unfold cellsT at hzc
          rw [Option.bind_eq_some_iff] at hzc
          obtain ⟨z, hz, hzc⟩ := hzc
          simp only [ev1] at he
          split at he
          · rename_i cs hcs
            split at he
            · rename_i ds hds
              split at he
              · rename_i hall
                injection he with he; injection he with e1 e2; subst e1; subst e2
                have hq2 : All2 (fun (p : Nat × Value) (q : Nat × Nat × V) => (q.1 = p.1 * n ∧ q.2.1 = n) ∧ V.rel μ S h q.2.2 p.2) (parts.toList.map fun (i, x) => (i, ρ x)) (qs.map fun (a, b, x) => (a, b, ev x)) := by
                  have := compParts_rel hr _ _ _ _ hq
                  revert this
                  generalize (parts.toList.map fun (i, x) => (i, ρ x)) = A
                  generalize (qs.map fun (a, b, x) => (a, b, ev x)) = B
                  intro hh
                  clear hcs
                  induction hh with
                  | nil => exact .nil
                  | cons a _ ih =>
                    refine .cons ⟨?_, a.2⟩ ih
                    have := a.1
                    injection this with this
                    injection this with q1 q2
                    exact ⟨q1.symm, q2.symm⟩
                rw [allD_eq hds] at hcs
                obtain ⟨y, S', w', g1, g2, g3⟩ := ok_bslice (P := P) i hu hn hz hzc hcond.1 hcond.2 hq2 hcs hall.1 hall.2
                exact OpOK.val (congrArg (fun q => (do pure (Next.value (← Instr.buildSlice t len q)) : Sem Next)) hparts) g1 g2 g3
              · cases he
            · cases he
          · cases he
        · cases hc
      · cases hc
    · cases hc
  | load t x =>
    simp only [compOp] at hc
    split at hc
    · rename_i g n a h1 h2 h3
      injection hc with hc; subst hc
      simp only [ev1, Option.map_eq_some_iff] at he
      obtain ⟨u, hu, e1⟩ := he
      injection e1 with e1 e2; subst e1; subst e2
      obtain ⟨y, g1, g2⟩ := ok_load (P := P) i h2 h1 hu (hr.rd x a h3)
      exact OpOK.val rfl g1 (Tr.refl i) g2
    · cases hc
  | store t x y =>
    simp only [compOp] at hc
    split at hc
    · rename_i n a b h1 h2 h3
      injection hc with hc; subst hc
      simp only [ev1, Option.map_eq_some_iff] at he
      obtain ⟨h2', hu, e1⟩ := he
      injection e1 with e1 e2; subst e1; subst e2
      obtain ⟨w', g1, g2⟩ := ok_store (P := P) i h1 hu (hr.rd x a h2) (wid_rel hr (hr.rd y b h3) _)
      exact ⟨.skip, undef, μ, S, w', skip_of g1, .inr ⟨rfl, rfl⟩, g2, ⟨[], rfl, rfl⟩⟩
    · cases hc
  | nilCheck x =>
    simp only [compOp, Option.map_eq_some_iff] at hc
    obtain ⟨a, ha, rfl⟩ := hc
    simp only [ev1] at he
    split at he
    · rename_i hn
      injection he with he; injection he with e1 e2; subst e1; subst e2
      have rx := hr.rd x a ha
      refine ⟨_, ρ x, μ, S, w, ?_, .inl rfl, Tr.refl i, rx⟩
      revert rx hn
      generalize ev a = u
      intro hn rx
      simp only [execOp]
      unfold isNil at hn
      split at hn <;> first | (cases hn; done) | skip
      · obtain ⟨b, o, e, _⟩ := rx; rw [e]; rfl
      · obtain ⟨a, b, e, _⟩ := rx; rw [e]; rfl
      · obtain ⟨u, e, _⟩ := rx; rw [e]; rfl
      · obtain ⟨_, _, e⟩ := rx; rw [e]; rfl
      · obtain ⟨_, _, _, e⟩ := rx; rw [e]; rfl
      · obtain ⟨a, b, e, _⟩ := rx; rw [e]; rfl
      · obtain ⟨u, e, _⟩ := rx; rw [e]; rfl
    · cases he
  | binOp op t x y yt =>
    simp only [compOp] at hc
    obtain ⟨z, g1, rfl, g2⟩ := ok_bi_bin (P := P) (yt := yt) i hr hc he
    exact OpOK.val rfl g1 (Tr.refl i) g2
  | unOp op t x =>
    simp only [compOp, Option.map_eq_some_iff] at hc
    obtain ⟨a, ha, rfl⟩ := hc
    simp only [ev1] at he
    split at he
    · rename_i d hd
      simp only [Option.map_eq_some_iff] at he
      obtain ⟨c, h1, e1⟩ := he
      injection e1 with e1 e2; subst e1; subst e2
      have rx := hr.rd x a ha
      rw [hd] at rx
      obtain ⟨z, g1, g2⟩ := ok_un (P := P) (w := w) h1 rx
      exact OpOK.val rfl g1 (Tr.refl i) g2
    · cases he
  | convert src dst x =>
    simp only [compOp, Option.bind_eq_some_iff] at hc
    obtain ⟨a, ha, hc⟩ := hc
    obtain ⟨z, S', w', g1, g2, g3⟩ := ok_cv (P := P) i (hr.rd x a ha) hc he
    exact OpOK.val rfl g1 g2 g3
  | makeInterface t x =>
    simp only [compOp, Option.bind_eq_some_iff] at hc
    obtain ⟨a, ha, hc⟩ := hc
    have rx := hr.rd x a ha
    unfold compIf at hc
    split at hc
    · cases hc
    · cases hc
    · rename_i hno hno2
      injection hc with hc; subst hc
      have hrun : (Instr.makeInterface t (ρ x)).run P w = .ok (.iface t (ρ x)) w := by
        cases hu : P.underlying t with
        | none => exact (hno2 hu).elim
        | some d =>
          simp only [Instr.makeInterface, Sem.run_bind, run_underlying hu, Result.andThen_ok]
          cases d <;> first | rfl | (exact (hno _ hu).elim)
      simp only [ev1] at he
      split at he
      · rename_i d hd
        injection he with he; injection he with e1 e2; subst e1; subst e2
        rw [hd] at rx
        exact OpOK.val rfl hrun (Tr.refl i) ⟨_, rfl, rx⟩
      · injection he with he; injection he with e1 e2; subst e1; subst e2
        exact OpOK.val rfl hrun (Tr.refl i) ⟨_, rfl, rx⟩
  | makeFunc fn first cap =>
    cases fn with
    | func f =>
      simp only [compOp] at hc
      split at hc
      · rename_i a b h1 h2
        injection hc with hc; subst hc
        simp only [ev1] at he
        injection he with he; injection he with e1 e2; subst e1; subst e2
        have r1 := compXs_rel hr _ _ h1
        have r2 := compXs_rel hr _ _ h2
        refine OpOK.val (s := Instr.makeFunc (.func f) (first.map ρ) (cap.map ρ)) (y := .func (.func f) (first.map ρ) (cap.map ρ)) rfl rfl (Tr.refl i) ?_
        have e1 : first.map ρ = (first.toList.map ρ).toArray := by apply Array.ext'; simp
        have e2 : cap.map ρ = (cap.toList.map ρ).toArray := by apply Array.ext'; simp
        rw [e1, e2]
        exact ok_mkFn r1 r2
      · cases hc
    | _ => simp [compOp] at hc
  | makeSlice t l c =>
    simp only [compOp] at hc
    split at hc
    · rename_i a b h1 h2
      unfold compMk at hc
      split at hc
      · rename_i el hu
        split at hc
        · rename_i zc inf hzc hi
          split at hc
          · rename_i hcond
            injection hc with hc; subst hc
            unfold cellsT at hzc
            rw [Option.bind_eq_some_iff] at hzc
            obtain ⟨z, hz, hzc⟩ := hzc
            simp only [ev1] at he
            split at he
            · rename_i k1 l' k2 c' hl hcc
              split at he
              · rename_i hb
                injection he with he; injection he with e1 e2; subst e1; subst e2
                have r1 := hr.rd l a h1
                have r2 := hr.rd c b h2
                rw [hl] at r1; rw [hcc] at r2
                obtain ⟨y, μ', w', g1, g2, g3⟩ := ok_mksl (P := P) (k := k1) (k' := k2) i hu hi hz hzc hcond hb.1 hb.2.1 hb.2.2.1 hb.2.2.2.1
                refine OpOK.val (s := Instr.makeSlice t (ρ l) (ρ c)) rfl ?_ g2 g3
                rw [show ρ l = _ from r1, show ρ c = _ from r2]; exact g1
              · cases he
            · cases he
          · cases hc
        · cases hc
      · cases hc
    · cases hc
  | slice t x lo hi mx =>
    simp only [compOp] at hc
    split at hc
    · rename_i a l u m h1 h2 h3 h4
      have rx := hr.rd x a h1
      unfold compSl at hc
      split at hc
      · rename_i el hu
        simp only [Option.map_eq_some_iff] at hc
        obtain ⟨n, hn, rfl⟩ := hc
        simp only [ev1] at he
        split at he
        · rename_i l' u' m' q1 q2 q3
          simp only [Option.map_eq_some_iff] at he
          obtain ⟨v', hv, e1⟩ := he
          injection e1 with e1 e2; subst e1; subst e2
          obtain ⟨k1, p1⟩ := compXo_rel hr h2 q1
          obtain ⟨k2, p2⟩ := compXo_rel hr h3 q2
          obtain ⟨k3, p3⟩ := compXo_rel hr h4 q3
          obtain ⟨y, g1, g2⟩ := ok_slV (P := P) (w := w) (kl := k1) (kh := k2) (km := k3) hu hn hv rx
          refine OpOK.val (s := Instr.sliceAt t (ρ x) (lo.map ρ) (hi.map ρ) (mx.map ρ)) rfl ?_ (Tr.refl i) g2
          rw [p1, p2, p3]; exact g1
        · cases he
      · rename_i k el hu
        simp only [Option.map_eq_some_iff] at hc
        obtain ⟨n, hn, rfl⟩ := hc
        simp only [ev1] at he
        split at he
        · rename_i l' u' m' q1 q2 q3
          simp only [Option.map_eq_some_iff] at he
          obtain ⟨v', hv, e1⟩ := he
          injection e1 with e1 e2; subst e1; subst e2
          obtain ⟨k1, p1⟩ := compXo_rel hr h2 q1
          obtain ⟨k2, p2⟩ := compXo_rel hr h3 q2
          obtain ⟨k3, p3⟩ := compXo_rel hr h4 q3
          obtain ⟨y, g1, g2⟩ := ok_slA (P := P) (w := w) (kl := k1) (kh := k2) (km := k3) hu hn hv rx
          refine OpOK.val (s := Instr.sliceAt t (ρ x) (lo.map ρ) (hi.map ρ) (mx.map ρ)) rfl ?_ (Tr.refl i) g2
          rw [p1, p2, p3]; exact g1
        · cases he
      · rename_i hu
        split at hc
        · rename_i hm
          injection hc with hc; subst hc
          simp only [ev1] at he
          split at he
          · rename_i s l' u' hs q1 q2
            split at he
            · rename_i a' b' c' hb
              injection he with he; injection he with e1 e2; subst e1; subst e2
              obtain ⟨k1, p1⟩ := compXo_rel hr h2 q1
              obtain ⟨k2, p2⟩ := compXo_rel hr h3 q2
              have hmx : mx = none := by
                cases mx with
                | none => rfl
                | some z => simp only [compXo, Option.map_eq_some_iff] at h4; obtain ⟨_, _, e⟩ := h4; rw [← e] at hm; simp at hm
              subst hmx
              rw [hs] at rx
              have g1 := ok_slT (P := P) (w := w) (kl := k1) (kh := k2) hu hb
              refine OpOK.val (s := Instr.sliceAt t (ρ x) (lo.map ρ) (hi.map ρ) none) rfl ?_ (Tr.refl i) rfl
              rw [p1, p2, show ρ x = _ from rx]; exact g1
            · cases he
          · cases he
        · cases hc
      · cases hc
    · cases hc
  | fieldAddr t x j =>
    simp only [compOp, Option.bind_eq_some_iff] at hc
    obtain ⟨a, ha, hc⟩ := hc
    unfold compFa at hc
    split at hc
    · rename_i f hf
      split at hc
      · rename_i n hn
        split at hc
        · cases hc
        · rename_i h0
          injection hc with hc; subst hc
          simp only [ev1, Option.map_eq_some_iff] at he
          obtain ⟨v', hv, e1⟩ := he
          injection e1 with e1 e2; subst e1; subst e2
          unfold fieldT at hf
          split at hf
          · rename_i fs hu
            obtain ⟨y, g1, g2⟩ := ok_fadr (P := P) (w := w) hu hf hn h0 hv (hr.rd x a ha)
            exact OpOK.val rfl g1 (Tr.refl i) g2
          · cases hf
      · cases hc
    · cases hc
  | field t x j =>
    simp only [compOp, Option.bind_eq_some_iff] at hc
    obtain ⟨a, ha, hc⟩ := hc
    unfold compFd at hc
    split at hc
    · rename_i f hf
      split at hc
      · rename_i n g hn hg
        injection hc with hc; subst hc
        simp only [ev1, Option.map_eq_some_iff] at he
        obtain ⟨v', hv, e1⟩ := he
        injection e1 with e1 e2; subst e1; subst e2
        unfold fieldT at hf
        split at hf
        · rename_i fs hu
          obtain ⟨y, g1, g2⟩ := ok_fld (P := P) (w := w) hu hf hn hg hv (hr.rd x a ha)
          exact OpOK.val rfl g1 (Tr.refl i) g2
        · cases hf
      · cases hc
    · cases hc
  | indexAddr t x y =>
    simp only [compOp] at hc
    split at hc
    · rename_i a b h1 h2
      have rx := hr.rd x a h1
      have ry := hr.rd y b h2
      unfold compIa at hc
      split at hc
      · rename_i el hu
        simp only [Option.map_eq_some_iff] at hc
        obtain ⟨n, hn, rfl⟩ := hc
        simp only [ev1] at he
        split at he
        · rename_i z hz
          obtain ⟨k, hk⟩ := int?_eq hz
          rw [hk] at ry
          simp only [Option.map_eq_some_iff] at he
          obtain ⟨v', hv, e1⟩ := he
          injection e1 with e1 e2; subst e1; subst e2
          obtain ⟨y', g1, g2⟩ := ok_iadrS (P := P) (w := w) (k := k) hu hn hv rx
          refine OpOK.val (s := Instr.indexAt t (ρ x) (ρ y)) rfl ?_ (Tr.refl i) g2
          rw [show ρ y = _ from ry]; exact g1
        · cases he
      · rename_i len el hu
        simp only [Option.map_eq_some_iff] at hc
        obtain ⟨n, hn, rfl⟩ := hc
        simp only [ev1] at he
        split at he
        · rename_i z hz
          obtain ⟨k, hk⟩ := int?_eq hz
          rw [hk] at ry
          split at he
          · rename_i hb
            simp only [Option.map_eq_some_iff] at he
            obtain ⟨v', hv, e1⟩ := he
            injection e1 with e1 e2; subst e1; subst e2
            obtain ⟨y', g1, g2⟩ := ok_iadrA (P := P) (w := w) (k := k) hu hn hb.1 hb.2 hv rx
            refine OpOK.val (s := Instr.indexAt t (ρ x) (ρ y)) rfl ?_ (Tr.refl i) g2
            rw [show ρ y = _ from ry]; exact g1
          · cases he
        · cases he
      · cases hc
    · cases hc
  | index t x y =>
    simp only [compOp] at hc
    split at hc
    · rename_i a b h1 h2
      have rx := hr.rd x a h1
      have ry := hr.rd y b h2
      unfold compIx at hc
      split at hc
      · rename_i len el hu
        split at hc
        · rename_i n g hn hg
          injection hc with hc; subst hc
          simp only [ev1] at he
          split at he
          · rename_i z hz
            obtain ⟨k, hk⟩ := int?_eq hz
            rw [hk] at ry
            split at he
            · rename_i hb
              simp only [Option.map_eq_some_iff] at he
              obtain ⟨v', hv, e1⟩ := he
              injection e1 with e1 e2; subst e1; subst e2
              obtain ⟨y', g1, g2⟩ := ok_idxA (P := P) (w := w) (k := k) hu hn hg hb.1 hb.2 hv rx
              refine OpOK.val (s := Instr.index t (ρ x) (ρ y)) rfl ?_ (Tr.refl i) g2
              rw [show ρ y = _ from ry]; exact g1
            · cases he
          · cases he
        · cases hc
      · rename_i hu
        injection hc with hc; subst hc
        simp only [ev1] at he
        split at he
        · rename_i l z hl hz
          obtain ⟨k, hk⟩ := int?_eq hz
          rw [hk] at ry
          rw [hl] at rx
          split at he
          · rename_i h0
            simp only [Option.map_eq_some_iff] at he
            obtain ⟨b', hb, e1⟩ := he
            injection e1 with e1 e2; subst e1; subst e2
            have g1 := ok_idxS (P := P) (w := w) (k := k) hu h0 hb
            refine OpOK.val (s := Instr.index t (ρ x) (ρ y)) rfl ?_ (Tr.refl i) rfl
            rw [show ρ y = _ from ry, show ρ x = _ from rx]; exact g1
          · cases he
        · cases he
      · cases hc
    · cases hc
  | extract x j =>
    simp only [compOp, Option.map_eq_some_iff] at hc
    obtain ⟨a, ha, rfl⟩ := hc
    have rx := hr.rd x a ha
    simp only [ev1] at he
    split at he
    · rename_i vs hvs
      simp only [Option.map_eq_some_iff] at he
      obtain ⟨v', hv, e1⟩ := he
      injection e1 with e1 e2; subst e1; subst e2
      rw [hvs] at rx
      obtain ⟨us, e, r1⟩ := rx
      obtain ⟨y, g1, g2⟩ := D.rels_get _ _ r1 hv
      refine OpOK.val (s := Instr.extract (ρ x) j) rfl ?_ (Tr.refl i) g2
      rw [e]; simp [Instr.extract, g1]
    · rename_i vs hvs
      simp only [Option.map_eq_some_iff] at he
      obtain ⟨v', hv, e1⟩ := he
      injection e1 with e1 e2; subst e1; subst e2
      rw [hvs] at rx
      obtain ⟨us, e, r1⟩ := rx
      obtain ⟨y, g1, g2⟩ := V.rels_get _ _ r1 hv
      refine OpOK.val (s := Instr.extract (ρ x) j) rfl ?_ (Tr.refl i) g2
      rw [e]; simp [Instr.extract, g1]
    · cases he
  | call c =>
    obtain ⟨callee, args, argTypes⟩ := c
    cases callee with
    | builtin b =>
      simp only [compOp, Option.bind_eq_some_iff] at hc
      obtain ⟨rs, hx, hc⟩ := hc
      obtain ⟨x, μ', S', w', g1, g2, g3⟩ := ok_bi (P := P) (ty := type) (cs := args.map fun | .const _ => true | _ => false) i hr hx hc he
      refine ⟨_, x, μ', S', w', ?_, .inl rfl, g2, g3⟩
      have e1 : args.map ρ = (args.toList.map ρ).toArray := by apply Array.ext'; simp
      simp only [execOp, resolve, Sem.run_bind, Sem.run_pure, Result.andThen_ok, invoke]
      rw [e1]; exact g1
    | _ => simp [compOp] at hc
  | _ => simp [compOp] at hc

/-- A variable whose block was told of. -/
theorem make_ok (i : Inv μ S h w) {o : Oper} {t : TypeId} {z : List D} {id : Nat} (ho : o.op = .alloc t) (hc : compOp P G o.op = some (.alloc z)) (hg : h[id]? = some .ghost) :
    OpOK P o ρ μ S h w (.ptr id 0) (h.set id (.cells (z.map .d))) := by
  obtain ⟨dst, op, ty, pos, after, guard⟩ := o
  simp only at ho hc
  subst ho
  simp only [compOp, Option.map_eq_some_iff] at hc
  obtain ⟨cs, hcs, hz⟩ := hc
  injection hz with hz; subst hz
  unfold cellsT at hcs
  rw [Option.bind_eq_some_iff] at hcs
  obtain ⟨z, hz, hzc⟩ := hcs
  obtain ⟨x, μ', w', g1, g2, g3⟩ := ok_make (P := P) i hg hz hzc
  exact OpOK.val rfl g1 g2 g3

end
end Go.Ev
