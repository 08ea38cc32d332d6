/- The machine's code, and its functions, do what the abstract run says. -/
import Derived.Test.YtgkjmdbjncnlpaaEvS
namespace Go.Ev
set_option linter.unusedVariables false
set_option linter.unusedSimpArgs false

section
variable {P : Program} {G : Glob} {isS : FuncId → Bool} {call : CallT} {sp : SpecT}

theorem tidy_ok {keep : List Nat} {μ μ' : Mu} {S S' : Stab} {h h' : List Blk} {w w' : World} {ts : List V} {xs : List Value} (t : Tr μ S h w μ' S' h' w') (r : V.rels μ' S' h' ts xs) :
    ∃ μ'', Tr μ S h w μ'' S' (tidy keep h ts h').2 w' ∧ V.rels μ'' S' (tidy keep h ts h').2 (tidy keep h ts h').1 xs :=
  compact_ok t (forget_rel keep 0 ts xs r) rfl

theorem loop_steps {c : Code} {keep : List Nat} {f : List V → List Blk → Option (Ex × List V × List Blk)} (hf : CodeOK P G c f) : ∀ (m : Nat) (ts : List V) (h : List Blk) (ex : Ex) (ts' : List V) (h' : List Blk), evLoop f keep m ts h = some (ex, ts', h') →
    ∀ (μ : Mu) (S : Stab) (w : World) (a : Act) (Q : Exit → Act → World → Prop), Inv μ S h w → GOK G S → V.rels μ S h ts a.tmps.toList →
    (∀ e' a' w' μ' S', Tr μ S h w μ' S' h' w' → V.rels μ' S' h' ts' a'.tmps.toList → a'.defers = a.defers → ExRel μ' S' h' ex e' → Q e' a' w') →
    ∀ (b : Frame) (k : List Item) (cs : List Frame), ∃ e a' w', Q e a' w' ∧ Arrives P (lone (b.at a (.code c :: .inLoop c :: k)) cs w) b k cs e a' w'
  | 0, ts, h, ex, ts', h', he, _, _, _, _, _, _, _, _, _, _, _, _ => by simp [evLoop] at he
  | m + 1, ts, h, ex, ts', h', he, μ, S, w, a, Q, i, hG, ht, hQ, b, k, cs => by
    simp only [evLoop] at he
    cases hf1 : f ts h with
    | none => rw [hf1] at he; cases he
    | some r =>
      obtain ⟨ex1, ts1, h1⟩ := r
      have hwp := hf ts h ex1 ts1 h1 hf1 μ S w a
        (fun e' a' w' => ∃ μ' S', Tr μ S h w μ' S' h1 w' ∧ V.rels μ' S' h1 ts1 a'.tmps.toList ∧ a'.defers = a.defers ∧ ExRel μ' S' h1 ex1 e') i hG ht
        (fun e' a' w' μ' S' t r d x => ⟨μ', S', t, r, d, x⟩)
      obtain ⟨e1, a1, w1, ⟨μ1, S1, t1, r1, d1, x1⟩, harr⟩ := hwp b (.inLoop c :: k) cs
      have leave : ex = ex1 → ts' = ts1 → h' = h1 → e1 ≠ .normal → ∃ e a' w', Q e a' w' ∧ Arrives P (lone (b.at a (.code c :: .inLoop c :: k)) cs w) b k cs e a' w' := by
        rintro rfl rfl rfl hne
        exact ⟨e1, a1, w1, hQ e1 a1 w1 μ1 S1 t1 r1 d1 x1, .pass (x := .inLoop c) rfl (fun _ _ => .inl hne) harr⟩
      rw [hf1] at he
      cases ex1 with
      | nor =>
        simp only at he
        have hn : e1 = .normal := x1
        subst hn
        obtain ⟨μ1', t1', r1'⟩ := tidy_ok (keep := keep) t1 r1
        obtain ⟨e2, a2, w2, hq2, harr2⟩ := loop_steps hf m _ _ ex ts' h' he μ1' S1 w1 a1 Q t1'.inv (hG.mono t1'.kp.sub) r1'
          (fun e' a' w' μ' S' t r d x => hQ e' a' w' μ' S' (t1'.trans t) r (d.trans d1) x) b k cs
        exact ⟨e2, a2, w2, hq2, .of_steps (Steps.trans harr (.one step_inLoop)) harr2⟩
      | exit id =>
        simp only at he
        injection he with he; injection he with q1 q2; injection q2 with q2 q3
        subst q1; subst q2; subst q3
        obtain ⟨μ1', t1', r1'⟩ := tidy_ok (keep := keep) t1 r1
        have hn : e1 = .exit id := x1
        exact ⟨e1, a1, w1, hQ e1 a1 w1 μ1' S1 t1' r1' d1 x1, .pass (x := .inLoop c) rfl (fun _ _ => .inl (by rw [hn]; simp)) harr⟩
      | ret =>
        simp only at he
        injection he with he; injection he with q1 q2; injection q2 with q2 q3
        exact leave q1.symm q2.symm q3.symm (by rw [show e1 = .ret from x1]; simp)
      | pan v =>
        simp only at he
        injection he with he; injection he with q1 q2; injection q2 with q2 q3
        obtain ⟨x, hx, _⟩ := x1
        exact leave q1.symm q2.symm q3.symm (by rw [hx]; simp)

theorem loop_ok {c : Code} {f : List V → List Blk → Option (Ex × List V × List Blk)} (hf : CodeOK P G c f) (keep : List Nat) (n : Nat) : CodeOK P G (.loop c) (fun ts h => evLoop f keep n (forget keep 0 ts) h) := by
  intro ts h ex ts' h' he μ S w a Q i hG ht hQ b k cs
  obtain ⟨e, a', w', hq, harr⟩ := loop_steps hf n _ h ex ts' h' he μ S w a Q i hG (forget_rel keep 0 ts _ ht) hQ b k cs
  exact ⟨e, a', w', hq, .of_steps (.one step_loop) harr⟩

theorem scope_ok {c : Code} {f : List V → List Blk → Option (Ex × List V × List Blk)} (hf : CodeOK P G c f) : CodeOK P G (.scope c) f := by
  intro ts h ex ts' h' he μ S w a Q i hG ht hQ b k cs
  obtain ⟨e1, a1, w1, ⟨μ1, S1, t1, r1, d1, x1⟩, harr⟩ := hf ts h ex ts' h' he μ S w a
    (fun e' a' w' => ∃ μ' S', Tr μ S h w μ' S' h' w' ∧ V.rels μ' S' h' ts' a'.tmps.toList ∧ a'.defers = a.defers ∧ ExRel μ' S' h' ex e') i hG ht
    (fun e' a' w' μ' S' t r d x => ⟨μ', S', t, r, d, x⟩) b (.inScope c :: k) cs
  have hstep : step P (lone (b.at a (.code (.scope c) :: k)) cs w) = .next (lone (b.at a (.code c :: .inScope c :: k)) cs w) :=
    step_lone_go (by simp [stepG, stepG.exec, Frame.at])
  have hstep2 : step P (lone (b.at a1 (.inScope c :: k)) cs w1) = .next (lone (b.at a1 k) cs w1) :=
    step_lone_go (by simp [stepG, stepG.exec, Frame.at])
  refine ⟨e1, a1, w1, hQ e1 a1 w1 μ1 S1 t1 r1 d1 x1, ?_⟩
  refine .of_steps (.one hstep) ?_
  cases ex with
  | nor =>
    have : e1 = .normal := x1
    subst this
    exact Steps.trans harr (.one hstep2)
  | exit id =>
    have : e1 = .exit id := x1
    subst this
    exact fun k' hk => harr k' (by simpa [exitTo] using hk)
  | ret =>
    have : e1 = .ret := x1
    subst this
    exact harr
  | pan v =>
    obtain ⟨x, hx, _⟩ := x1
    subst hx
    exact harr

/-- The machine's code does what the abstract run says. -/
theorem evC_ok (hcall : CallOK P G call) (hspec : SpecOK P G sp) (hS : ∀ f, isS f = true → (sp f).isSome = true) (hmix : P.follows .mixedOrders = true) (n : Nat) {K : Nat → List Nat} :
    ∀ (c : Code) (rc : RC), compC P G isS K c = some rc → CodeOK P G c (evC call sp n rc)
  | .skip, rc, hc => by
    simp only [compC, Option.some.injEq] at hc; subst hc
    intro ts h ex ts' h' he μ S w a Q i hG ht hQ
    simp only [evC] at he
    injection he with he; injection he with e1 e2; injection e2 with e2 e3; subst e1; subst e2; subst e3
    exact wp_skip (hQ _ _ _ μ S (Tr.refl i) ht rfl rfl)
  | .label l, rc, hc => by
    simp only [compC, Option.some.injEq] at hc; subst hc
    intro ts h ex ts' h' he μ S w a Q i hG ht hQ
    simp only [evC] at he
    injection he with he; injection he with e1 e2; injection e2 with e2 e3; subst e1; subst e2; subst e3
    exact wp_label (hQ _ _ _ μ S (Tr.refl i) ht rfl rfl)
  | .exit id, rc, hc => by
    simp only [compC, Option.some.injEq] at hc; subst hc
    intro ts h ex ts' h' he μ S w a Q i hG ht hQ
    simp only [evC] at he
    injection he with he; injection he with e1 e2; injection e2 with e2 e3; subst e1; subst e2; subst e3
    exact wp_exit (hQ _ _ _ μ S (Tr.refl i) ht rfl rfl)
  | .ret, rc, hc => by
    simp only [compC, Option.some.injEq] at hc; subst hc
    intro ts h ex ts' h' he μ S w a Q i hG ht hQ
    simp only [evC] at he
    injection he with he; injection he with e1 e2; injection e2 with e2 e3; subst e1; subst e2; subst e3
    exact wp_ret (hQ _ _ _ μ S (Tr.refl i) ht rfl rfl)
  | .region id ops false, rc, hc => by
    simp only [compC, Option.map_eq_some_iff] at hc
    obtain ⟨rs, hrs, rfl⟩ := hc
    intro ts h ex ts' h' he μ S w a Q i hG ht hQ
    simp only [evC] at he
    exact wp_region_list (evOps_ok hcall hspec hS ops.toList rs ts hrs he i hG ht hQ)
  | .region id ops true, rc, hc => by
    simp only [compC] at hc
    split at hc
    · rename_i rs hrs
      split at hc
      · rename_i hp
        injection hc with hc; subst hc
        intro ts h ex ts' h' he μ S w a Q i hG ht hQ
        simp only [evC] at he
        split at he
        · rename_i ts1 h1 hev
          injection he with he; injection he with e1 e2; injection e2 with e2 e3; subst e1; subst e2; subst e3
          exact par_ok hcall hspec hS hmix hrs hp hev i hG ht hQ
        · cases he
      · cases hc
    · cases hc
  | .seq x y, rc, hc => by
    simp only [compC] at hc
    split at hc
    · rename_i rx ry hx hy
      injection hc with hc; subst hc
      intro ts h ex ts' h' he μ S w a Q i hG ht hQ
      simp only [evC] at he
      have hX := evC_ok hcall hspec hS hmix n x rx hx
      have hY := evC_ok hcall hspec hS hmix n y ry hy
      refine wp_seq ?_
      cases hf1 : evC call sp n rx ts h with
      | none => rw [hf1] at he; cases he
      | some r =>
        obtain ⟨ex1, ts1, h1⟩ := r
        rw [hf1] at he
        refine hX ts h ex1 ts1 h1 hf1 μ S w a _ i hG ht ?_
        intro e' a' w' μ' S' t r d x
        have leave : ex = ex1 → ts' = ts1 → h' = h1 → e' ≠ .normal → Exit.then (y.wp P Q) Q e' a' w' := by
          rintro rfl rfl rfl hne
          have := hQ e' a' w' μ' S' t r d x
          cases e' <;> first | exact this | exact absurd rfl hne
        cases ex1 with
        | nor =>
          have : e' = .normal := x
          subst this
          simp only at he
          exact hY ts1 h1 ex ts' h' he μ' S' w' a' Q t.inv (hG.mono t.kp.sub) r (fun e2 a2 w2 μ2 S2 t2 r2 d2 x2 => hQ e2 a2 w2 μ2 S2 (t.trans t2) r2 (d2.trans d) x2)
        | exit id =>
          simp only at he
          injection he with he; injection he with q1 q2; injection q2 with q2 q3
          exact leave q1.symm q2.symm q3.symm (by rw [show e' = .exit id from x]; simp)
        | ret =>
          simp only at he
          injection he with he; injection he with q1 q2; injection q2 with q2 q3
          exact leave q1.symm q2.symm q3.symm (by rw [show e' = .ret from x]; simp)
        | pan v =>
          simp only at he
          injection he with he; injection he with q1 q2; injection q2 with q2 q3
          obtain ⟨z, hz, _⟩ := x
          exact leave q1.symm q2.symm q3.symm (by rw [hz]; simp)
    · cases hc
  | .cond c x y, rc, hc => by
    simp only [compC] at hc
    split at hc
    · rename_i rz rx ry hz hx hy
      injection hc with hc; subst hc
      intro ts h ex ts' h' he μ S w a Q i hG ht hQ
      have hr := (reads_of (G := G) hG ht).rd c rz hz
      simp only [evC] at he
      split at he
      · rename_i hb
        rw [show RX.ev ts rz = _ from hb] at hr
        exact wp_cond_true hr (evC_ok hcall hspec hS hmix n x rx hx ts h ex ts' h' he μ S w a Q i hG ht hQ)
      · rename_i hb
        rw [show RX.ev ts rz = _ from hb] at hr
        exact wp_cond_false hr (evC_ok hcall hspec hS hmix n y ry hy ts h ex ts' h' he μ S w a Q i hG ht hQ)
      · cases he
    · cases hc
  | .block id c, rc, hc => by
    simp only [compC, Option.map_eq_some_iff] at hc
    obtain ⟨rx, hx, rfl⟩ := hc
    intro ts h ex ts' h' he μ S w a Q i hG ht hQ
    simp only [evC] at he
    refine wp_block ?_
    cases hf1 : evC call sp n rx ts h with
    | none => rw [hf1] at he; cases he
    | some r =>
      obtain ⟨ex1, ts1, h1⟩ := r
      rw [hf1] at he
      refine evC_ok hcall hspec hS hmix n c rx hx ts h ex1 ts1 h1 hf1 μ S w a _ i hG ht ?_
      intro e' a' w' μ' S' t r d x
      cases ex1 with
      | nor =>
        simp only at he
        injection he with he; injection he with q1 q2; injection q2 with q2 q3; subst q1; subst q2; subst q3
        have : e' = .normal := x
        subst this
        exact hQ .normal a' w' μ' S' t r d rfl
      | exit j =>
        have : e' = .exit j := x
        subst this
        simp only at he
        split at he
        · rename_i hj
          injection he with he; injection he with q1 q2; injection q2 with q2 q3; subst q1; subst q2; subst q3
          simp only [Exit.inBlock, hj, if_true]
          exact hQ .normal a' w' μ' S' t r d rfl
        · rename_i hj
          injection he with he; injection he with q1 q2; injection q2 with q2 q3; subst q1; subst q2; subst q3
          simp only [Exit.inBlock, hj, if_false]
          exact hQ (.exit j) a' w' μ' S' t r d rfl
      | ret =>
        simp only at he
        injection he with he; injection he with q1 q2; injection q2 with q2 q3; subst q1; subst q2; subst q3
        have : e' = .ret := x
        subst this
        exact hQ .ret a' w' μ' S' t r d rfl
      | pan v =>
        simp only at he
        injection he with he; injection he with q1 q2; injection q2 with q2 q3; subst q1; subst q2; subst q3
        obtain ⟨z, hz, rz⟩ := x
        subst hz
        exact hQ _ a' w' μ' S' t r d ⟨z, rfl, rz⟩
  | .loop c, rc, hc => by
    simp only [compC, Option.map_eq_some_iff] at hc
    obtain ⟨rx, hx, rfl⟩ := hc
    exact loop_ok (evC_ok hcall hspec hS hmix n c rx hx) _ n
  | .scope c, rc, hc => by
    simp only [compC, Option.map_eq_some_iff] at hc
    obtain ⟨rx, hx, rfl⟩ := hc
    exact scope_ok (evC_ok hcall hspec hS hmix n c rx hx)
  | .rangeFunc .., rc, hc => by simp [compC] at hc
  | .goto _, rc, hc => by simp [compC] at hc
  | .refuse _, rc, hc => by simp [compC] at hc

end
end Go.Ev
