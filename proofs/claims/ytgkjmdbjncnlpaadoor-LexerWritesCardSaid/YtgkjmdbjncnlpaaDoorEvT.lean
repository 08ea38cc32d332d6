/- The machine's code, and its functions, do what the abstract run says. -/
import Derived.Test.YtgkjmdbjncnlpaaDoorEvS
namespace Go.Ev
set_option linter.unusedVariables false
set_option linter.unusedSimpArgs false

section
variable {P : Program} {G : Glob} {isS : FuncId → Bool} {call : CallT} {sp : SpecT}

theorem tidy_ok {keep : List Nat} {ws : List Wd} {μ μ' : Mu} {S S' : Stab} {h h' : List Blk} {w w' : World} {ts : List V} {xs : List Value} (t : Tr μ S h w μ' S' h' w') (r : V.rels μ' S' h' ts xs) :
    ∃ μ'', Tr μ S h w μ'' S' (tidy keep ws h ts h').2 w' ∧ V.rels μ'' S' (tidy keep ws h ts h').2 (tidy keep ws h ts h').1 xs := by
  obtain ⟨μ'', t2, r2⟩ := compact_ok (vs'' := (compact h.length (forget keep 0 ts) h').1) (h'' := (compact h.length (forget keep 0 ts) h').2) t (forget_rel keep 0 ts xs r) rfl
  obtain ⟨t3, r3⟩ := wds_ok ws t2.inv r2
  exact ⟨μ'', t2.trans t3, r3⟩

/-- What an end says, tidied. -/
theorem tidyE_ok {ti : TI} {μ μ' : Mu} {S S' : Stab} {h h1 : List Blk} {w w' : World} {ex1 ex : Ex} {ts1 ts' : List V} {h' : List Blk} {xs : List Value} {e' : Exit} (he : tidyE ti h (some (ex1, ts1, h1)) = some (ex, ts', h'))
    (t : Tr μ S h w μ' S' h1 w') (r : V.rels μ' S' h1 ts1 xs) (x : ExRel μ' S' h1 ex1 e') :
    ∃ μ'', Tr μ S h w μ'' S' h' w' ∧ V.rels μ'' S' h' ts' xs ∧ ExRel μ'' S' h' ex e' ∧ (ex = .nor ↔ ex1 = .nor) := by
  cases ex1 with
  | nor =>
    simp only [tidyE] at he
    injection he with he; injection he with e1 e2; injection e2 with e2 e3; subst e1; subst e2; subst e3
    obtain ⟨μ'', t2, r2⟩ := tidy_ok (keep := ti.keep) (ws := ti.beh) t r
    exact ⟨μ'', t2, r2, x, by simp⟩
  | exit id =>
    simp only [tidyE] at he
    injection he with he; injection he with e1 e2; injection e2 with e2 e3; subst e1; subst e2; subst e3
    obtain ⟨μ'', t2, r2⟩ := tidy_ok (keep := ti.keep) (ws := ti.beh) t r
    exact ⟨μ'', t2, r2, x, by simp⟩
  | ret =>
    simp only [tidyE] at he
    injection he with he; injection he with e1 e2; injection e2 with e2 e3; subst e1; subst e2; subst e3
    obtain ⟨μ'', t2, r2⟩ := tidy_ok (keep := ti.res) (ws := []) t r
    exact ⟨μ'', t2, r2, x, by simp⟩
  | pan v =>
    simp only [tidyE] at he
    injection he with he; injection he with e1 e2; injection e2 with e2 e3; subst e1; subst e2; subst e3
    exact ⟨μ', t, r, x, by simp⟩

theorem loop_steps {c : Code} {ti : TI} {f : List V → List Blk → Option (Ex × List V × List Blk)} (hf : CodeOK P G c f) : ∀ (m : Nat) (ts : List V) (h : List Blk) (ex : Ex) (ts' : List V) (h' : List Blk), evLoop f ti m ts h = some (ex, ts', h') →
    ∀ (μ : Mu) (S : Stab) (w : World) (a : Act) (Q : Exit → Act → World → Prop), Inv μ S h w → GOK G S → V.rels μ S h ts a.tmps.toList →
    (∀ e' a' w' μ' S', Tr μ S h w μ' S' h' w' → V.rels μ' S' h' ts' a'.tmps.toList → a'.defers = a.defers → ExRel μ' S' h' ex e' → Q e' a' w') →
    ∀ (b : Frame) (k : List Item) (cs : List Frame), ∃ e a' w', Q e a' w' ∧ Arrives P (lone (b.at a (.code c :: .inLoop c :: k)) cs w) b k cs e a' w'
  | 0, ts, h, ex, ts', h', he, _, _, _, _, _, _, _, _, _, _, _, _ => by simp [evLoop] at he
  | m + 1, ts, h, ex, ts', h', he, μ, S, w, a, Q, i, hG, ht, hQ, b, k, cs => by
    simp only [evLoop] at he
    cases hf1 : f ts h with
    | none => rw [hf1] at he; cases he
    | some r =>
      obtain ⟨ex1, ts1, h1⟩ := r
      have hwp := hf ts h ex1 ts1 h1 hf1 μ S w a
        (fun e' a' w' => ∃ μ' S', Tr μ S h w μ' S' h1 w' ∧ V.rels μ' S' h1 ts1 a'.tmps.toList ∧ a'.defers = a.defers ∧ ExRel μ' S' h1 ex1 e') i hG ht
        (fun e' a' w' μ' S' t r d x => ⟨μ', S', t, r, d, x⟩)
      obtain ⟨e1, a1, w1, ⟨μ1, S1, t1, r1, d1, x1⟩, harr⟩ := hwp b (.inLoop c :: k) cs
      rw [hf1] at he
      cases htd : tidyE ti h (some (ex1, ts1, h1)) with
      | none => rw [htd] at he; cases he
      | some r2 =>
        obtain ⟨ex2, ts2, h2⟩ := r2
        obtain ⟨μ2, t2, r2, x2, hnor⟩ := tidyE_ok htd t1 r1 x1
        rw [htd] at he
        have leave : ex2 ≠ .nor → some (ex2, ts2, h2) = some (ex, ts', h') → e1 ≠ .normal → ∃ e a' w', Q e a' w' ∧ Arrives P (lone (b.at a (.code c :: .inLoop c :: k)) cs w) b k cs e a' w' := by
          intro _ q hne
          injection q with q; injection q with q1 q2; injection q2 with q2 q3; subst q1; subst q2; subst q3
          exact ⟨e1, a1, w1, hQ e1 a1 w1 μ2 S1 t2 r2 d1 x2, .pass (x := .inLoop c) rfl (fun _ _ => .inl hne) harr⟩
        cases ex2 with
        | nor =>
          simp only at he
          have hn : e1 = .normal := x2
          subst hn
          obtain ⟨e2, a2, w2, hq2, harr2⟩ := loop_steps hf m _ _ ex ts' h' he μ2 S1 w1 a1 Q t2.inv (hG.mono t2.kp.sub) r2
            (fun e' a' w' μ' S' t r d x => hQ e' a' w' μ' S' (t2.trans t) r (d.trans d1) x) b k cs
          exact ⟨e2, a2, w2, hq2, .of_steps (Steps.trans harr (.one step_inLoop)) harr2⟩
        | exit id => exact leave (by simp) he (by rw [show e1 = .exit id from x2]; simp)
        | ret => exact leave (by simp) he (by rw [show e1 = .ret from x2]; simp)
        | pan v =>
          obtain ⟨x, hx, _⟩ := x2
          exact leave (by simp) he (by rw [hx]; simp)

theorem loop_ok {c : Code} {f : List V → List Blk → Option (Ex × List V × List Blk)} (hf : CodeOK P G c f) (ti : TI) (n : Nat) :
    CodeOK P G (.loop c) (fun ts h => evLoop f ti n (wds ti.ent (forget ti.keep 0 ts) h).1 (wds ti.ent (forget ti.keep 0 ts) h).2) := by
  intro ts h ex ts' h' he μ S w a Q i hG ht hQ b k cs
  obtain ⟨t, r⟩ := wds_ok ti.ent i (forget_rel ti.keep 0 ts _ ht)
  obtain ⟨e, a', w', hq, harr⟩ := loop_steps hf n _ _ ex ts' h' he μ S w a Q t.inv hG r (fun e' a' w' μ' S' t' r d x => hQ e' a' w' μ' S' (t.trans t') r d x) b k cs
  exact ⟨e, a', w', hq, .of_steps (.one step_loop) harr⟩

theorem tidyC_ok {c : Code} {f : List V → List Blk → Option (Ex × List V × List Blk)} (hf : CodeOK P G c f) (ti : TI) : CodeOK P G c (fun ts h => tidyE ti h (f ts h)) := by
  intro ts h ex ts' h' he μ S w a Q i hG ht hQ
  simp only at he
  cases hf1 : f ts h with
  | none => rw [hf1] at he; cases he
  | some r =>
    obtain ⟨ex1, ts1, h1⟩ := r
    rw [hf1] at he
    refine hf ts h ex1 ts1 h1 hf1 μ S w a Q i hG ht ?_
    intro e' a' w' μ' S' t r d x
    obtain ⟨μ2, t2, r2, x2, _⟩ := tidyE_ok he t r x
    exact hQ e' a' w' μ2 S' t2 r2 d x2

theorem scope_ok {c : Code} {f : List V → List Blk → Option (Ex × List V × List Blk)} (hf : CodeOK P G c f) : CodeOK P G (.scope c) f := by
  intro ts h ex ts' h' he μ S w a Q i hG ht hQ b k cs
  obtain ⟨e1, a1, w1, ⟨μ1, S1, t1, r1, d1, x1⟩, harr⟩ := hf ts h ex ts' h' he μ S w a
    (fun e' a' w' => ∃ μ' S', Tr μ S h w μ' S' h' w' ∧ V.rels μ' S' h' ts' a'.tmps.toList ∧ a'.defers = a.defers ∧ ExRel μ' S' h' ex e') i hG ht
    (fun e' a' w' μ' S' t r d x => ⟨μ', S', t, r, d, x⟩) b (.inScope c :: k) cs
  have hstep : step P (lone (b.at a (.code (.scope c) :: k)) cs w) = .next (lone (b.at a (.code c :: .inScope c :: k)) cs w) :=
    step_lone_go (by simp [stepG, stepG.exec, Frame.at])
  have hstep2 : step P (lone (b.at a1 (.inScope c :: k)) cs w1) = .next (lone (b.at a1 k) cs w1) :=
    step_lone_go (by simp [stepG, stepG.exec, Frame.at])
  refine ⟨e1, a1, w1, hQ e1 a1 w1 μ1 S1 t1 r1 d1 x1, ?_⟩
  refine .of_steps (.one hstep) ?_
  cases ex with
  | nor =>
    have : e1 = .normal := x1
    subst this
    exact Steps.trans harr (.one hstep2)
  | exit id =>
    have : e1 = .exit id := x1
    subst this
    exact fun k' hk => harr k' (by simpa [exitTo] using hk)
  | ret =>
    have : e1 = .ret := x1
    subst this
    exact harr
  | pan v =>
    obtain ⟨x, hx, _⟩ := x1
    subst hx
    exact harr

/-- The machine's code does what the abstract run says. -/
theorem evC_ok (hcall : CallOK P G call) (hspec : SpecOK P G sp) (hS : ∀ f, isS f = true → (sp f).isSome = true) (hmix : P.follows .mixedOrders = true) (n : Nat) {K : Nat → TI} {T : Nat → Option TI} :
    ∀ (c : Code) (rc : RC), compC P G isS K T c = some rc → CodeOK P G c (evC call sp n rc)
  | .skip, rc, hc => by
    simp only [compC, Option.some.injEq] at hc; subst hc
    intro ts h ex ts' h' he μ S w a Q i hG ht hQ
    simp only [evC] at he
    injection he with he; injection he with e1 e2; injection e2 with e2 e3; subst e1; subst e2; subst e3
    exact wp_skip (hQ _ _ _ μ S (Tr.refl i) ht rfl rfl)
  | .label l, rc, hc => by
    simp only [compC, Option.some.injEq] at hc; subst hc
    intro ts h ex ts' h' he μ S w a Q i hG ht hQ
    simp only [evC] at he
    injection he with he; injection he with e1 e2; injection e2 with e2 e3; subst e1; subst e2; subst e3
    exact wp_label (hQ _ _ _ μ S (Tr.refl i) ht rfl rfl)
  | .exit id, rc, hc => by
    simp only [compC, Option.some.injEq] at hc; subst hc
    intro ts h ex ts' h' he μ S w a Q i hG ht hQ
    simp only [evC] at he
    injection he with he; injection he with e1 e2; injection e2 with e2 e3; subst e1; subst e2; subst e3
    exact wp_exit (hQ _ _ _ μ S (Tr.refl i) ht rfl rfl)
  | .ret, rc, hc => by
    simp only [compC, Option.some.injEq] at hc; subst hc
    intro ts h ex ts' h' he μ S w a Q i hG ht hQ
    simp only [evC] at he
    injection he with he; injection he with e1 e2; injection e2 with e2 e3; subst e1; subst e2; subst e3
    exact wp_ret (hQ _ _ _ μ S (Tr.refl i) ht rfl rfl)
  | .region id ops false, rc, hc => by
    simp only [compC, Option.map_eq_some_iff] at hc
    obtain ⟨rs, hrs, rfl⟩ := hc
    intro ts h ex ts' h' he μ S w a Q i hG ht hQ
    simp only [evC] at he
    exact wp_region_list (evOps_ok hcall hspec hS ops.toList rs ts hrs he i hG ht hQ)
  | .region id ops true, rc, hc => by
    simp only [compC] at hc
    split at hc
    · rename_i rs hrs
      split at hc
      · rename_i hp
        injection hc with hc; subst hc
        intro ts h ex ts' h' he μ S w a Q i hG ht hQ
        simp only [evC] at he
        split at he
        · rename_i ts1 h1 hev
          injection he with he; injection he with e1 e2; injection e2 with e2 e3; subst e1; subst e2; subst e3
          exact par_ok hcall hspec hS hmix hrs hp hev i hG ht hQ
        · cases he
      · cases hc
    · cases hc
  | .seq x y, rc, hc => by
    simp only [compC] at hc
    split at hc
    · rename_i rx0 ry hx0 hy
      obtain ⟨rx, rfl, hX⟩ : ∃ rx, rc = .seq rx ry ∧ CodeOK P G x (evC call sp n rx) := by
        have hX := evC_ok hcall hspec hS hmix n x rx0 hx0
        split at hc
        · rename_i ti _
          injection hc with hc; subst hc
          exact ⟨_, rfl, tidyC_ok hX ti⟩
        · injection hc with hc; subst hc
          exact ⟨_, rfl, hX⟩
      intro ts h ex ts' h' he μ S w a Q i hG ht hQ
      simp only [evC] at he
      have hY := evC_ok hcall hspec hS hmix n y ry hy
      refine wp_seq ?_
      cases hf1 : evC call sp n rx ts h with
      | none => rw [hf1] at he; cases he
      | some r =>
        obtain ⟨ex1, ts1, h1⟩ := r
        rw [hf1] at he
        refine hX ts h ex1 ts1 h1 hf1 μ S w a _ i hG ht ?_
        intro e' a' w' μ' S' t r d x
        have leave : ex = ex1 → ts' = ts1 → h' = h1 → e' ≠ .normal → Exit.then (y.wp P Q) Q e' a' w' := by
          rintro rfl rfl rfl hne
          have := hQ e' a' w' μ' S' t r d x
          cases e' <;> first | exact this | exact absurd rfl hne
        cases ex1 with
        | nor =>
          have : e' = .normal := x
          subst this
          simp only at he
          exact hY ts1 h1 ex ts' h' he μ' S' w' a' Q t.inv (hG.mono t.kp.sub) r (fun e2 a2 w2 μ2 S2 t2 r2 d2 x2 => hQ e2 a2 w2 μ2 S2 (t.trans t2) r2 (d2.trans d) x2)
        | exit id =>
          simp only at he
          injection he with he; injection he with q1 q2; injection q2 with q2 q3
          exact leave q1.symm q2.symm q3.symm (by rw [show e' = .exit id from x]; simp)
        | ret =>
          simp only at he
          injection he with he; injection he with q1 q2; injection q2 with q2 q3
          exact leave q1.symm q2.symm q3.symm (by rw [show e' = .ret from x]; simp)
        | pan v =>
          simp only at he
          injection he with he; injection he with q1 q2; injection q2 with q2 q3
          obtain ⟨z, hz, _⟩ := x
          exact leave q1.symm q2.symm q3.symm (by rw [hz]; simp)
    · cases hc
  | .cond c x y, rc, hc => by
    simp only [compC] at hc
    split at hc
    · rename_i rz rx ry hz hx hy
      injection hc with hc; subst hc
      intro ts h ex ts' h' he μ S w a Q i hG ht hQ
      have hr := (reads_of (G := G) hG ht).rd c rz hz
      simp only [evC] at he
      split at he
      · rename_i hb
        rw [show RX.ev ts rz = _ from hb] at hr
        exact wp_cond_true hr (evC_ok hcall hspec hS hmix n x rx hx ts h ex ts' h' he μ S w a Q i hG ht hQ)
      · rename_i hb
        rw [show RX.ev ts rz = _ from hb] at hr
        exact wp_cond_false hr (evC_ok hcall hspec hS hmix n y ry hy ts h ex ts' h' he μ S w a Q i hG ht hQ)
      · cases he
    · cases hc
  | .block id c, rc, hc => by
    simp only [compC, Option.map_eq_some_iff] at hc
    obtain ⟨rx, hx, rfl⟩ := hc
    intro ts h ex ts' h' he μ S w a Q i hG ht hQ
    simp only [evC] at he
    refine wp_block ?_
    cases hf1 : evC call sp n rx ts h with
    | none => rw [hf1] at he; cases he
    | some r =>
      obtain ⟨ex1, ts1, h1⟩ := r
      rw [hf1] at he
      refine evC_ok hcall hspec hS hmix n c rx hx ts h ex1 ts1 h1 hf1 μ S w a _ i hG ht ?_
      intro e' a' w' μ' S' t r d x
      cases ex1 with
      | nor =>
        simp only at he
        injection he with he; injection he with q1 q2; injection q2 with q2 q3; subst q1; subst q2; subst q3
        have : e' = .normal := x
        subst this
        exact hQ .normal a' w' μ' S' t r d rfl
      | exit j =>
        have : e' = .exit j := x
        subst this
        simp only at he
        split at he
        · rename_i hj
          injection he with he; injection he with q1 q2; injection q2 with q2 q3; subst q1; subst q2; subst q3
          simp only [Exit.inBlock, hj, if_true]
          exact hQ .normal a' w' μ' S' t r d rfl
        · rename_i hj
          injection he with he; injection he with q1 q2; injection q2 with q2 q3; subst q1; subst q2; subst q3
          simp only [Exit.inBlock, hj, if_false]
          exact hQ (.exit j) a' w' μ' S' t r d rfl
      | ret =>
        simp only at he
        injection he with he; injection he with q1 q2; injection q2 with q2 q3; subst q1; subst q2; subst q3
        have : e' = .ret := x
        subst this
        exact hQ .ret a' w' μ' S' t r d rfl
      | pan v =>
        simp only at he
        injection he with he; injection he with q1 q2; injection q2 with q2 q3; subst q1; subst q2; subst q3
        obtain ⟨z, hz, rz⟩ := x
        subst hz
        exact hQ _ a' w' μ' S' t r d ⟨z, rfl, rz⟩
  | .loop c, rc, hc => by
    simp only [compC, Option.map_eq_some_iff] at hc
    obtain ⟨rx, hx, rfl⟩ := hc
    exact loop_ok (evC_ok hcall hspec hS hmix n c rx hx) _ n
  | .scope c, rc, hc => by
    simp only [compC, Option.map_eq_some_iff] at hc
    obtain ⟨rx, hx, rfl⟩ := hc
    exact scope_ok (evC_ok hcall hspec hS hmix n c rx hx)
  | .rangeFunc .., rc, hc => by simp [compC] at hc
  | .goto _, rc, hc => by simp [compC] at hc
  | .refuse _, rc, hc => by simp [compC] at hc

end
end Go.Ev
