/- One operation of the machine does what the abstract operation says. -/
import Derived.Test.YtgkjmdbjncnlpaaDoorEvN
namespace Go.Ev
set_option linter.unusedVariables false
set_option linter.unusedSimpArgs false

section
variable {P : Program} {G : Glob} {μ : Mu} {S : Stab} {h : List Blk} {w : World} {ρ : Operand → Value} {ev : RX → V}

/-- The operands read as the abstract ones. -/
structure Reads (G : Glob) (μ : Mu) (S : Stab) (h : List Blk) (ρ : Operand → Value) (ev : RX → V) : Prop where
  cst : ∀ x, ev (.c x) = .d x
  rd : ∀ x rx, compX G x = some rx → V.rel μ S h (ev rx) (ρ x)

def OpOK (P : Program) (o : Oper) (ρ : Operand → Value) (μ : Mu) (S : Stab) (h : List Blk) (w : World) (v : V) (h' : List Blk) : Prop :=
  ∃ (nx : Next) (x : Value) (μ' : Mu) (S' : Stab) (w' : World), (execOp ρ o).run P w = .ok nx w' ∧ (nx = .value x ∨ nx = .skip ∧ x = undef) ∧ Tr μ S h w μ' S' h' w' ∧ V.rel μ' S' h' v x

theorem val_of {s : Sem Value} {y : Value} {w' : World} (hs : s.run P w = .ok y w') : (do pure (Next.value (← s)) : Sem Next).run P w = .ok (.value y) w' := by
  simp [hs]

theorem skip_of {s : Sem Unit} {w' : World} (hs : s.run P w = .ok () w') : (do s; pure Next.skip : Sem Next).run P w = .ok .skip w' := by
  simp [hs]

theorem compXo_rel (hr : Reads G μ S h ρ ev) {x : Option Operand} {rx : Option RX} {z : Option Int} (hx : compXo G x = some rx) (hz : optInt ev rx = some z) :
    ∃ k, x.map ρ = z.map (Value.int k) := by
  cases x with
  | none => simp [compXo] at hx; subst hx; simp [optInt] at hz; subst hz; exact ⟨.i64, rfl⟩
  | some x =>
    simp only [compXo, Option.map_eq_some_iff] at hx
    obtain ⟨a, h1, rfl⟩ := hx
    simp only [optInt, Option.map_eq_some_iff] at hz
    obtain ⟨n, h2, rfl⟩ := hz
    obtain ⟨k, hk⟩ := int?_eq h2
    have := hr.rd x a h1
    rw [hk] at this
    exact ⟨k, by rw [Option.map_some, show ρ x = _ from this]; rfl⟩

theorem wid_rel (hr : Reads G μ S h ρ ev) {x : RX} {v : Value} (r : V.rel μ S h (ev x) v) (sz : Option Nat) : V.rel μ S h (ev (x.wid sz)) v := by
  cases x with
  | t i => exact r
  | c d => simp only [RX.wid, hr.cst] at r ⊢; exact D.wid_rel r

theorem compXsW_rel (hr : Reads G μ S h ρ ev) : ∀ (xs : List Operand) (ls : List (Option Nat)) (rs : List RX), compXsW G ls xs = some rs → V.rels μ S h (rs.map ev) (xs.map ρ)
  | [], ls, rs, e => by simp [compXsW] at e; subst e; rfl
  | x :: xs, ls, rs, e => by
    simp only [compXsW] at e
    split at e
    · rename_i a b h1 h2
      injection e with e; subst e
      exact ⟨_, _, rfl, wid_rel hr (hr.rd x a h1) _, compXsW_rel hr xs _ b h2⟩
    · cases e

theorem compParts_rel (hr : Reads G μ S h ρ ev) (ls : List (Option Nat)) (place : Nat → Option (Nat × Nat)) : ∀ (ps : List (Nat × Operand)) (qs : List (Nat × Nat × RX)), compParts G ls place ps = some qs →
    All2 (fun (p : Nat × Value) (q : Nat × Nat × V) => place p.1 = some (q.1, q.2.1) ∧ V.rel μ S h q.2.2 p.2) (ps.map fun (i, x) => (i, ρ x)) (qs.map fun (a, b, x) => (a, b, ev x))
  | [], qs, e => by simp [compParts] at e; subst e; exact .nil
  | (i, x) :: r, qs, e => by
    simp only [compParts] at e
    split at e
    · rename_i a b y z h1 h2 h3
      injection e with e; subst e
      exact .cons ⟨h1, wid_rel hr (hr.rd x y h2) _⟩ (compParts_rel hr ls place r z h3)
    · cases e

theorem compXs_rel (hr : Reads G μ S h ρ ev) : ∀ (xs : List Operand) (rs : List RX), compXs G xs = some rs → V.rels μ S h (rs.map ev) (xs.map ρ)
  | [], rs, e => by simp [compXs] at e; subst e; rfl
  | x :: xs, rs, e => by
    simp only [compXs] at e
    split at e
    · rename_i a b h1 h2
      injection e with e; subst e
      exact ⟨_, _, rfl, hr.rd x a h1, compXs_rel hr xs b h2⟩
    · cases e

theorem ok_mkFn {f : FuncId} {a b : List V} {as bs : List Value} (ra : V.rels μ S h a as) (rb : V.rels μ S h b bs) : V.rel μ S h (mkFn f a b) (.func (.func f) as.toArray bs.toArray) := by
  unfold mkFn
  split
  · rename_i x y h1 h2
    have e1 := allD_eq h1
    have e2 := allD_eq h2
    subst e1; subst e2
    exact ⟨as, bs, rfl, V.rels_d.1 ra, V.rels_d.1 rb⟩
  · exact ⟨as, bs, rfl, ra, rb⟩

theorem ok_bi_bin (i : Inv μ S h w) (hr : Reads G μ S h ρ ev) {op : BinOp} {t yt : TypeId} {x y : Operand} {r : ROp} {v : V} {h' : List Blk} (hc : compBin P G op t x y = some r) (he : ev1 r ev h = some (v, h')) :
    ∃ z, (do eqGuard op t x y (ρ x) (ρ y); binOp op t (ρ x) (ρ y) : Sem Value).run P w = .ok z w ∧ h' = h ∧ V.rel μ S h v z := by
  unfold compBin at hc
  split at hc
  · rename_i a b ha hb
    have rx := hr.rd x a ha
    have ry := hr.rd y b hb
    have bin : r = .bin op a b → ∃ z, (do eqGuard op t x y (ρ x) (ρ y); binOp op t (ρ x) (ρ y) : Sem Value).run P w = .ok z w ∧ h' = h ∧ V.rel μ S h v z := by
      rintro rfl
      simp only [ev1] at he
      split at he
      · rename_i p q hp hq
        simp only [Option.map_eq_some_iff] at he
        obtain ⟨c, h1, h2⟩ := he
        injection h2 with h2 h3; subst h2; subst h3
        rw [hp] at rx; rw [hq] at ry
        obtain ⟨z, g1, g2⟩ := ok_bin (P := P) (w := w) (t := t) (x := x) (y := y) h1 rx ry
        exact ⟨z, g1, rfl, g2⟩
      · cases he
    have nil_ : ∀ (neg : Bool) (k : NK), op = (if neg then .neq else .eql) → nkT P t = some k → compNil k neg x y a b = some r →
        ∃ z, (do eqGuard op t x y (ρ x) (ρ y); binOp op t (ρ x) (ρ y) : Sem Value).run P w = .ok z w ∧ h' = h ∧ V.rel μ S h v z := by
      intro neg k hop hk hn
      have isn : ∀ (z : Operand) (c : RX) (u : Value), nilX k z c = true → V.rel μ S h (ev c) u → isConstX z = true ∧ D.rel S k.nil u := by
        intro z c u hz hu
        unfold nilX at hz
        split at hz
        · rename_i d hcz
          refine ⟨hcz, ?_⟩
          rw [hr.cst d] at hu
          cases k <;> cases d <;> simp [D.isNilOf] at hz <;> exact hu
        · cases hz
      unfold compNil at hn
      split at hn
      · rename_i hx
        injection hn with hn; subst hn
        simp only [ev1, Option.map_eq_some_iff] at he
        obtain ⟨c, h1, h2⟩ := he
        injection h2 with h2 h3; subst h2; subst h3
        obtain ⟨g1, g2⟩ := isn y b (ρ y) hx ry
        subst hop
        exact ⟨_, (ok_isnil (P := P) (w := w) (x := x) (y := y) hk h1 rx g2 neg (.inr g1)).1, rfl, rfl⟩
      · split at hn
        · rename_i hx
          injection hn with hn; subst hn
          simp only [ev1, Option.map_eq_some_iff] at he
          obtain ⟨c, h1, h2⟩ := he
          injection h2 with h2 h3; subst h2; subst h3
          obtain ⟨g1, g2⟩ := isn x a (ρ x) hx rx
          subst hop
          exact ⟨_, (ok_isnil (P := P) (w := w) (x := x) (y := y) hk h1 ry g2 neg (.inl g1)).2, rfl, rfl⟩
        · cases hn
    have eq_ : ∀ (neg : Bool), op = (if neg then .neq else .eql) → compEq P neg t x y a b = some r →
        ∃ z, (do eqGuard op t x y (ρ x) (ρ y); binOp op t (ρ x) (ρ y) : Sem Value).run P w = .ok z w ∧ h' = h ∧ V.rel μ S h v z := by
      intro neg hop hq
      unfold compEq at hq
      split at hq
      · rename_i hu
        injection hq with hq; subst hq
        simp only [ev1] at he
        split at he
        · rename_i p q hp hq'
          injection he with he; injection he with e1 e2; subst e1; subst e2
          rw [hp] at rx; rw [hq'] at ry
          subst hop
          rw [show ρ x = _ from rx, show ρ y = _ from ry]
          exact ⟨_, ok_eqb (P := P) (w := w) hu neg, rfl, rfl⟩
        · cases he
      · simp only [Option.map_eq_some_iff] at hq
        obtain ⟨p, hp, rfl⟩ := hq
        simp only [ev1, Option.map_eq_some_iff] at he
        obtain ⟨c, h1, h2⟩ := he
        injection h2 with h2 h3; subst h2; subst h3
        subst hop
        exact ⟨_, ok_eqs (P := P) (w := w) hp h1 rx ry neg, rfl, rfl⟩
      · split at hq
        · rename_i k hk
          exact nil_ neg k hop hk hq
        · cases hq
    split at hc
    · injection hc with hc; exact bin hc.symm
    · injection hc with hc; exact bin hc.symm
    · split at hc
      · exact eq_ false rfl hc
      · exact eq_ true rfl hc
      · cases hc
  · cases hc

theorem ok_cv (i : Inv μ S h w) {src dst : TypeId} {a : RX} {x : Value} {r : ROp} {v : V} {h' : List Blk} (ra : V.rel μ S h (ev a) x) (hc : compCv P src dst a = some r) (he : ev1 r ev h = some (v, h')) :
    ∃ z S' w', (convert src dst x).run P w = .ok z w' ∧ Tr μ S h w μ S' h' w' ∧ V.rel μ S' h' v z := by
  unfold compCv at hc
  split at hc
  · rename_i k1 k hs hd
    injection hc with hc; subst hc
    simp only [ev1] at he
    split at he
    · rename_i k2 n hn
      injection he with he; injection he with e1 e2; subst e1; subst e2
      rw [hn] at ra
      rw [show x = _ from ra]
      exact ⟨_, S, w, by simp [convert, run_underlying hs, run_underlying hd, Conv.intToInt], Tr.refl i, rfl⟩
    · cases he
  · rename_i hs hd
    injection hc with hc; subst hc
    simp only [ev1] at he
    split at he
    · rename_i l hn
      injection he with he; injection he with e1 e2; subst e1; subst e2
      rw [hn] at ra
      rw [show x = _ from ra]
      exact ⟨_, S, w, by simp [convert, run_underlying hs, run_underlying hd], Tr.refl i, rfl⟩
    · cases he
  · rename_i e hs hd
    split at hc
    · rename_i hu
      injection hc with hc; subst hc
      simp only [ev1] at he
      split at he
      · rename_i l hn
        injection he with he; injection he with e1 e2; subst e1; subst e2
        rw [hn] at ra
        rw [show x = _ from ra]
        obtain ⟨y, S', w', g1, g2, g3⟩ := ok_cvsb (P := P) i hs hd hu (l := l)
        exact ⟨y, S', w', g1, g2, g3⟩
      · cases he
    · cases hc
  · rename_i e hs hd
    split at hc
    · rename_i he8
      injection hc with hc; subst hc
      simp only [ev1] at he
      split at he
      · rename_i m cs hl
        rw [Option.bind_eq_some_iff] at he
        obtain ⟨l, hb, he⟩ := he
        split at he
        · rename_i hm
          injection he with he; injection he with e1 e2; subst e1; subst e2
          exact ⟨_, S, w, ok_cvbs (P := P) i hs hd he8 ra hl hb hm.1 hm.2, Tr.refl i, rfl⟩
        · cases he
      · cases he
    · cases hc
  · cases hc

theorem ok_len {t : TypeId} {a : RX} {x : Value} {ts : Array TypeId} {r : ROp} {v : V} {h' : List Blk} {ty : TypeId} (ra : V.rel μ S h (ev a) x) (hc : compLen P t a = some r) (he : ev1 r ev h = some (v, h')) :
    ∃ z, (Builtin.len_ #[t] ty #[x]).run P w = .ok z w ∧ h' = h ∧ V.rel μ S h v z := by
  unfold compLen at hc
  have sl : ∀ (n : Nat) (ad : Option Addr) (c : Nat), (∃ e, P.underlying t = some (.slice e)) → x = .slice ad n c → (Builtin.len_ #[t] ty #[x]).run P w = .ok (.int .i64 n) w := by
    rintro n ad c ⟨e, hu⟩ rfl
    simp [Builtin.len_, run_underlying hu, goInt]
  split at hc
  · rename_i hu
    injection hc with hc; subst hc
    simp only [ev1] at he
    split at he
    · rename_i l hn
      injection he with he; injection he with e1 e2; subst e1; subst e2
      rw [hn] at ra
      rw [show x = _ from ra]
      have hsz : (ByteArray.mk l.toArray).size = l.length := by simp [ByteArray.size]
      exact ⟨_, by simp [Builtin.len_, run_underlying hu, goInt, hsz], rfl, rfl⟩
    · cases he
  · rename_i e hu
    injection hc with hc; subst hc
    simp only [ev1] at he
    split at he
    · rename_i q n _ _ hn
      injection he with he; injection he with e1 e2; subst e1; subst e2
      rw [hn] at ra
      obtain ⟨b, cap, hx, _⟩ := ra
      exact ⟨_, sl _ _ _ ⟨e, hu⟩ hx, rfl, rfl⟩
    · rename_i hn
      injection he with he; injection he with e1 e2; subst e1; subst e2
      rw [hn] at ra
      exact ⟨_, sl 0 none 0 ⟨e, hu⟩ ra, rfl, rfl⟩
    · rename_i q1 q2 n q3 hn
      injection he with he; injection he with e1 e2; subst e1; subst e2
      rw [hn] at ra
      obtain ⟨_, b, cap, hx, _⟩ := ra
      exact ⟨_, sl _ _ _ ⟨e, hu⟩ hx, rfl, rfl⟩
    · rename_i q1 q2 q4 n q3 hn
      injection he with he; injection he with e1 e2; subst e1; subst e2
      rw [hn] at ra
      obtain ⟨_, _, _, hx⟩ := ra
      exact ⟨_, sl _ _ _ ⟨e, hu⟩ hx, rfl, rfl⟩
    · cases he
  · rename_i n e hu
    injection hc with hc; subst hc
    simp only [ev1] at he
    injection he with he; injection he with e1 e2; subst e1; subst e2
    exact ⟨_, by simp [Builtin.len_, run_underlying hu, goInt], rfl, rfl⟩
  · cases hc

theorem min2D_none : ∀ l : List V, l.foldl min2D none = none
  | [] => rfl
  | x :: l => by rw [List.foldl_cons, show min2D none x = none from rfl]; exact min2D_none l
theorem max2D_none : ∀ l : List V, l.foldl max2D none = none
  | [] => rfl
  | x :: l => by rw [List.foldl_cons, show max2D none x = none from rfl]; exact max2D_none l

theorem fold_min : ∀ (l : List V) (vs : List Value) (k : IntKind) (a : Int) (d : D), V.rels μ S h l vs → l.foldl min2D (some (.int k a)) = some d →
    ∃ z, (vs.foldlM Builtin.min2 (.int k a)).run P w = .ok z w ∧ D.rel S d z
  | [], _, k, a, d, r, e => by
    rw [show _ = [] from r]
    simp at e; subst e
    exact ⟨.int k a, by simp, rfl⟩
  | x :: l, _, k, a, d, ⟨v, ws, e1, r0, r⟩, e => by
    subst e1
    simp only [List.foldl_cons] at e
    cases q : min2D (some (.int k a)) x with
    | none => rw [q, min2D_none] at e; cases e
    | some c =>
      rw [q] at e
      unfold min2D at q
      split at q
      · rename_i k' a' k2 b h1
        injection h1 with h1; injection h1 with h1 h2; subst h1; subst h2
        injection q with q; subst q
        rw [show v = _ from r0]
        obtain ⟨z, g1, g2⟩ := fold_min l ws k (if b < a then b else a) d r e
        refine ⟨z, ?_, g2⟩
        simp only [List.foldlM_cons, Sem.run_bind]
        rw [show (Builtin.min2 (.int k a) (.int k2 b)).run P w = .ok (.int k (if b < a then b else a)) w from by simp [Builtin.min2]]
        exact g1
      · cases q

theorem fold_max : ∀ (l : List V) (vs : List Value) (k : IntKind) (a : Int) (d : D), V.rels μ S h l vs → l.foldl max2D (some (.int k a)) = some d →
    ∃ z, (vs.foldlM Builtin.max2 (.int k a)).run P w = .ok z w ∧ D.rel S d z
  | [], _, k, a, d, r, e => by
    rw [show _ = [] from r]
    simp at e; subst e
    exact ⟨.int k a, by simp, rfl⟩
  | x :: l, _, k, a, d, ⟨v, ws, e1, r0, r⟩, e => by
    subst e1
    simp only [List.foldl_cons] at e
    cases q : max2D (some (.int k a)) x with
    | none => rw [q, max2D_none] at e; cases e
    | some c =>
      rw [q] at e
      unfold max2D at q
      split at q
      · rename_i k' a' k2 b h1
        injection h1 with h1; injection h1 with h1 h2; subst h1; subst h2
        injection q with q; subst q
        rw [show v = _ from r0]
        obtain ⟨z, g1, g2⟩ := fold_max l ws k (if b > a then b else a) d r e
        refine ⟨z, ?_, g2⟩
        simp only [List.foldlM_cons, Sem.run_bind]
        rw [show (Builtin.max2 (.int k a) (.int k2 b)).run P w = .ok (.int k (if b > a then b else a)) w from by simp [Builtin.max2]]
        exact g1
      · cases q

/-- The built-in functions. -/
theorem ok_bi (i : Inv μ S h w) (hr : Reads G μ S h ρ ev) {b : Builtin} {ts : Array TypeId} {xs : List Operand} {rs : List RX} {ty : TypeId} {cs : Array Bool} {r : ROp} {v : V} {h' : List Blk}
    (hx : compXs G xs = some rs) (hc : compBi P G b ts.toList rs = some r) (he : ev1 r ev h = some (v, h')) :
    ∃ x μ' S' w', (builtin b ts ty cs (xs.map ρ).toArray).run P w = .ok (.value x) w' ∧ Tr μ S h w μ' S' h' w' ∧ V.rel μ' S' h' v x := by
  have hrs := compXs_rel hr xs rs hx
  unfold compBi at hc
  split at hc
  · rename_i t a hts
    obtain ⟨v0, ws, e1, r0, r1⟩ := hrs
    obtain rfl : ws = [] := r1
    obtain ⟨z, g1, rfl, g2⟩ := ok_len (P := P) (w := w) (ts := ts) (ty := ty) r0 hc he
    have ht : ts = #[t] := by apply Array.ext'; simpa using hts
    subst ht
    refine ⟨z, μ, S, w, ?_, Tr.refl i, g2⟩
    rw [e1]
    simp only [builtin]
    exact val_of g1
  · rename_i t xt a b' hts
    obtain ⟨v0, ws, e1, r0, v1, ws1, rfl, r1, r2⟩ := hrs
    obtain rfl : ws1 = [] := r2
    have ht : ts = #[t, xt] := by apply Array.ext'; simpa using hts
    subst ht
    rw [e1]
    unfold compApp at hc
    split at hc
    · rename_i el hu
      split at hc
      · rename_i zc inf hzc hi
        split at hc
        · rename_i hcond
          injection hc with hc; subst hc
          unfold cellsT at hzc
          rw [Option.bind_eq_some_iff] at hzc
          obtain ⟨z, hz, hzc⟩ := hzc
          simp only [ev1] at he
          split at he
          · rename_i l hl
            rw [hl] at r1
            have hy : v1 = .string ⟨l.toArray⟩ := r1
            subst hy
            have hsz : (ByteArray.mk l.toArray).size = l.length := by simp [ByteArray.size]
            have hone : inf.size = 1 ∨ l = [] := by
              by_cases q : l = []
              · exact .inr q
              · left
                unfold appV at he
                split at he
                · cases he
                · rename_i hcc
                  have : (bytesD l).length = l.length * inf.size := by
                    by_cases q2 : (bytesD l).length = l.length * inf.size
                    · exact q2
                    · exact absurd (.inr q2) hcc
                  simp only [bytesD, List.length_map] at this
                  have hpos : 0 < l.length := List.length_pos_iff.2 q
                  exact (Nat.eq_of_mul_eq_mul_left hpos (by omega)).symm
            obtain ⟨q, μ', S', w', g1, g2, g3⟩ := ok_app (P := P) (ty := ty) (xt := xt) (y := .string ⟨l.toArray⟩) i hu hcond.2 hi hz hzc hcond.1 he r0 (rel_bytes l) (by simp [Builtin.lenOf, hsz]) (fun w' _ => by
              simp only [Builtin.firstCells, Sem.run_pure]
              congr 1
              apply Array.ext'
              have hx : (ByteArray.mk l.toArray).extract 0 l.length = ⟨l.toArray⟩ := by rw [ByteArray.extract_mk]; simp
              rw [hx]; simp) (by
              intro u hu
              obtain ⟨b, _, rfl⟩ := List.mem_map.1 hu
              trivial)
            refine ⟨q, μ', S', w', ?_, g2, g3⟩
            simp only [builtin]
            exact val_of g1
          · rename_i hne
            split at he
            · rename_i m ys hl
              have hlen : ys.length = m * inf.size := by
                unfold appV at he
                split at he
                · cases he
                · rename_i hcc
                  by_cases q2 : ys.length = m * inf.size
                  · exact q2
                  · exact absurd (.inr q2) hcc
              obtain ⟨vs, p1, p2, p3, p4⟩ := list?_rel (P := P) hl r1 i inf.size hlen
              obtain ⟨q, μ', S', w', g1, g2, g3⟩ := ok_app (P := P) (ty := ty) (xt := xt) i hu hcond.2 hi hz hzc hcond.1 he r0 p1 p2 p3 p4
              refine ⟨q, μ', S', w', ?_, g2, g3⟩
              simp only [builtin]
              exact val_of g1
            · cases he
        · cases hc
      · cases hc
    · cases hc
  · injection hc with hc; subst hc
    simp only [ev1, Option.map_eq_some_iff] at he
    obtain ⟨d, h1, h2⟩ := he
    injection h2 with h2 h3; subst h2; subst h3
    unfold foldMin at h1
    split at h1
    · rename_i k a r hl
      rw [hl] at hrs
      obtain ⟨v0, ws, e1, r0, r1⟩ := hrs
      obtain ⟨z, g1, g2⟩ := fold_min (P := P) (w := w) _ _ _ _ _ r1 h1
      refine ⟨z, μ, S, w, ?_, Tr.refl i, g2⟩
      rw [e1, show v0 = _ from r0]
      simp only [builtin]
      exact val_of (by simpa [Builtin.min_] using g1)
    · cases h1
  · injection hc with hc; subst hc
    simp only [ev1, Option.map_eq_some_iff] at he
    obtain ⟨d, h1, h2⟩ := he
    injection h2 with h2 h3; subst h2; subst h3
    unfold foldMax at h1
    split at h1
    · rename_i k a r hl
      rw [hl] at hrs
      obtain ⟨v0, ws, e1, r0, r1⟩ := hrs
      obtain ⟨z, g1, g2⟩ := fold_max (P := P) (w := w) _ _ _ _ _ r1 h1
      refine ⟨z, μ, S, w, ?_, Tr.refl i, g2⟩
      rw [e1, show v0 = _ from r0]
      simp only [builtin]
      exact val_of (by simpa [Builtin.max_] using g1)
    · cases h1
  · cases hc

end
end Go.Ev
