/- What each operation of the machine does, in the abstract operations' words: equality of structs, lists that grow, makes. -/
import Derived.Test.YtgkjmdbjncnlpaaDoorEvI
import Derived.Laws.IdiomStrings
namespace Go.Ev
set_option linter.unusedVariables false
set_option linter.unusedSimpArgs false

def leafT (P : Program) (t : TypeId) : Option LK := match P.underlying t with
  | some .bool => some .b
  | some (.int _) => some .i
  | some .string => some .s
  | _ => none

/-- Where the leaves of a struct's fields lie. -/
def planFs (P : Program) (rec : TypeId → Option (List (Nat × LK))) : List Field → Option (List (Nat × LK))
  | [] => some []
  | f :: fs => if f.name = "_" then planFs P rec fs else
    match leafT P f.type with
    | some k => (planFs P rec fs).map ((f.offset, k) :: ·)
    | none => match rec f.type, szT P f.type, planFs P rec fs with
      | some a, some n, some b => if a.all (·.1 < n) then some (a.map (fun x => (f.offset + x.1, x.2)) ++ b) else none
      | _, _, _ => none

/-- Where the leaves of a comparable struct lie. -/
def planT (P : Program) : Nat → TypeId → Option (List (Nat × LK))
  | 0, _ => none
  | d + 1, t => match P.underlying t with
    | some (.struct fs) => if P.stoodInHeld t then none else planFs P (planT P d) fs.toList
    | _ => none

theorem planEq_append (xs ys : List D) : ∀ (a b : List (Nat × LK)), planEq xs ys (a ++ b) = match planEq xs ys a with | some true => planEq xs ys b | r => r
  | [], b => rfl
  | (i, k) :: a, b => by
    simp only [List.cons_append, planEq]
    split
    · split
      · exact planEq_append xs ys a b
      · rfl
      · rfl
    · rfl

theorem planEq_shift (xs ys : List D) (off n : Nat) : ∀ (a : List (Nat × LK)), a.all (·.1 < n) = true →
    planEq xs ys (a.map (fun x => (off + x.1, x.2))) = planEq ((xs.drop off).take n) ((ys.drop off).take n) a
  | [], _ => rfl
  | (i, k) :: a, h => by
    simp only [List.all_cons, Bool.and_eq_true, decide_eq_true_eq] at h
    have hx : ∀ zs : List D, ((zs.drop off).take n)[i]? = zs[off + i]? := fun zs => by rw [List.getElem?_take_of_lt h.1, List.getElem?_drop]
    simp only [List.map_cons, planEq, hx]
    split
    · split
      · exact planEq_shift xs ys off n a h.2
      · rfl
      · rfl
    · rfl

section
variable {P : Program} {μ : Mu} {S : Stab} {h : List Blk} {w : World}

theorem ok_leaf {t : TypeId} {k : LK} {x y : D} {v u : Value} {b : Bool} (d : Nat) (hk : leafT P t = some k)
    (e : leafEq k x y = some b) (hx : D.rel S x v) (hy : D.rel S y u) : (Op.equalIn (d + 1) t v u).run P w = .ok b w := by
  unfold leafT at hk
  unfold leafEq at e
  split at e
  · split at e
    · rename_i hkk
      subst hkk
      injection e with e; subst e
      rw [show v = _ from hx, show u = _ from hy]
      split at hk <;> first | (cases hk; done) | skip
      rename_i hu
      exact run_equalIn_int w d t _ _ _ _ hu
    · cases e
  · injection e with e; subst e
    rw [show v = _ from hx, show u = _ from hy]
    split at hk <;> first | (cases hk; done) | skip
    rename_i hu
    rw [run_equalIn_string w d t _ _ hu]; simp
  · injection e with e; subst e
    rw [show v = _ from hx, show u = _ from hy]
    split at hk <;> first | (cases hk; done) | skip
    rename_i hu
    exact run_equalIn_bool' w d t _ _ hu
  · cases e

theorem leafT_scalar {t : TypeId} {k : LK} (hk : leafT P t = some k) : agT P t = some false := by
  unfold leafT at hk; unfold agT
  split at hk <;> first | (cases hk; done) | (rename_i hu; rw [hu]; rfl)

theorem run_part_scalar {t : TypeId} (ha : agT P t = some false) {vs : List Value} {off : Nat} {v : Value} (e : vs[off]? = some v) : (part t vs.toArray off).run P w = .ok v w := by
  simp [part, Sem.run_bind, run_isAgg ha, Result.andThen_ok, e]

theorem run_part_agg {t : TypeId} {n : Nat} (ha : agT P t = some true) (hs : szT P t = some n) {vs : List Value} {off : Nat} : (part t vs.toArray off).run P w = .ok (.agg ((vs.drop off).take n).toArray) w := by
  simp only [part, Sem.run_bind, run_isAgg ha, Result.andThen_ok, if_true, run_sizeOf hs, Sem.run_pure]
  congr 2
  apply Array.ext'
  simp only [Array.toList_extract, List.extract_eq_take_drop]
  congr 1
  omega

theorem planT_agg {d : Nat} {t : TypeId} {a : List (Nat × LK)} (e : planT P d t = some a) : agT P t = some true := by
  cases d with
  | zero => simp [planT] at e
  | succ d =>
    simp only [planT] at e; unfold agT
    split at e
    · rename_i hu; rw [hu]; rfl
    · cases e

theorem ok_planFs {rec : TypeId → Option (List (Nat × LK))} {d : Nat} (hrec : ∀ (t : TypeId) (plan : List (Nat × LK)), rec t = some plan → agT P t = some true ∧ ∀ (xs ys : List D) (vs us : List Value) (b : Bool), planEq xs ys plan = some b →
      D.rels S xs vs → D.rels S ys us → (Op.equalIn (d + 1) t (.agg vs.toArray) (.agg us.toArray)).run P w = .ok b w) :
    ∀ (fs : List Field) (plan : List (Nat × LK)), planFs P rec fs = some plan → ∀ (xs ys : List D) (vs us : List Value) (b : Bool), planEq xs ys plan = some b →
    D.rels S xs vs → D.rels S ys us → (Op.eqFields (d + 1) vs.toArray us.toArray fs).run P w = .ok b w
  | [], plan, e, xs, ys, vs, us, b, hp, hx, hy => by
    simp only [planFs, Option.some.injEq] at e; subst e
    simp only [planEq, Option.some.injEq] at hp; subst hp
    simp [Op.eqFields]
  | fd :: fs, plan, e, xs, ys, vs, us, b, hp, hx, hy => by
    simp only [planFs] at e
    split at e
    · rename_i hn
      simp only [Op.eqFields, hn, ne_eq, not_true_eq_false, if_false]
      exact ok_planFs hrec fs plan e xs ys vs us b hp hx hy
    · rename_i hn
      simp only [Op.eqFields, hn, ne_eq, not_false_eq_true, if_true]
      cases hk : leafT P fd.type with
      | some k =>
        simp only [hk, Option.map_eq_some_iff] at e
        obtain ⟨rest, hr, rfl⟩ := e
        simp only [planEq] at hp
        split at hp
        · rename_i x y ex ey
          obtain ⟨v, g1, g2⟩ := D.rels_get _ _ hx ex
          obtain ⟨u, g3, g4⟩ := D.rels_get _ _ hy ey
          have ha := leafT_scalar hk
          simp only [Sem.run_bind, run_part_scalar ha g1, Result.andThen_ok, run_part_scalar ha g3]
          split at hp
          · rename_i hl
            rw [ok_leaf d hk hl g2 g4]
            simp only [Result.andThen_ok, Bool.not_true, Bool.false_eq_true, if_false]
            exact ok_planFs hrec fs rest hr xs ys vs us b hp hx hy
          · rename_i hl
            injection hp with hp; subst hp
            rw [ok_leaf d hk hl g2 g4]
            simp
          · cases hp
        · cases hp
      | none =>
        simp only [hk] at e
        cases hq : rec fd.type with
        | none => simp [hq] at e
        | some a =>
          cases hn : szT P fd.type with
          | none => simp [hq, hn] at e
          | some n =>
            cases hr : planFs P rec fs with
            | none => simp [hq, hn, hr] at e
            | some rest =>
              simp only [hq, hn, hr] at e
              split at e
              · rename_i hall
                injection e with e; subst e
                have ha := (hrec _ _ hq).1
                rw [planEq_append, planEq_shift _ _ _ _ _ hall] at hp
                simp only [Sem.run_bind, run_part_agg ha hn, Result.andThen_ok]
                have hx' := D.rels_take n (D.rels_drop fd.offset hx)
                have hy' := D.rels_take n (D.rels_drop fd.offset hy)
                split at hp
                · rename_i hl
                  rw [(hrec _ _ hq).2 _ _ _ _ true hl hx' hy']
                  simp only [Result.andThen_ok, Bool.not_true, Bool.false_eq_true, if_false]
                  exact ok_planFs hrec fs rest hr xs ys vs us b hp hx hy
                · rename_i hl
                  cases b with
                  | true => exact absurd hp hl
                  | false =>
                    rw [(hrec _ _ hq).2 _ _ _ _ false hp hx' hy']
                    simp
              · cases e
theorem ok_planT : ∀ (d : Nat) (t : TypeId) (plan : List (Nat × LK)), planT P d t = some plan → ∀ (f : Nat) (xs ys : List D) (vs us : List Value) (b : Bool), planEq xs ys plan = some b →
    D.rels S xs vs → D.rels S ys us → (Op.equalIn (d + f + 1) t (.agg vs.toArray) (.agg us.toArray)).run P w = .ok b w
  | 0, _, _, e, _, _, _, _, _, _, _, _, _ => by simp [planT] at e
  | d + 1, t, plan, e, f, xs, ys, vs, us, b, hp, hx, hy => by
    simp only [planT] at e
    split at e
    · rename_i fs hu
      split at e
      · cases e
      · rename_i hst
        have hfs : P.fieldsOf t = fs := by simp [Program.fieldsOf, hu]
        have hst' : P.stoodInHeld t = false := by simpa using hst
        rw [run_equalIn_struct w _ t _ _ (by rw [hfs]; exact hu) hst', hfs, show d + 1 + f = d + f + 1 by omega]
        exact ok_planFs (d := d + f) (fun t' plan' e' => ⟨planT_agg e', fun xs ys vs us b => ok_planT d t' plan' e' f xs ys vs us b⟩) fs.toList plan e xs ys vs us b hp hx hy
    · cases e

/-- The plan of a struct type's equality. -/
def planTop (P : Program) (t : TypeId) : Option (List (Nat × LK)) := if P.eqGuardType P.depth t then none else planT P 10 t

theorem ok_eqs {t : TypeId} {plan : List (Nat × LK)} {a c : V} {v u : Value} {x y : Operand} {b : Bool} (ht : planTop P t = some plan) (e : eqsV plan a c = some b) (ra : V.rel μ S h a v)
    (rc : V.rel μ S h c u) (neg : Bool) :
    (do eqGuard (if neg then .neq else .eql) t x y v u; binOp (if neg then .neq else .eql) t v u : Sem Value).run P w = .ok (.bool (if neg then !b else b)) w := by
  unfold planTop at ht
  split at ht
  · cases ht
  · rename_i hg
    have hg' : P.eqGuardType P.depth t = false := by simpa using hg
    unfold eqsV at e
    split at e
    · obtain ⟨vs, rfl, r1⟩ := ra
      obtain ⟨us, rfl, r2⟩ := rc
      have hq : (Op.equalIn 10000 t (.agg vs.toArray) (.agg us.toArray)).run P w = .ok b w := ok_planT (P := P) (w := w) 10 t plan ht 9989 _ _ _ _ b e r1 r2
      cases neg
      · simp only [Bool.false_eq_true, if_false, Sem.run_bind, run_eqGuard_agg w _ t x y _ _ hg', Result.andThen_ok, run_eql_struct, hq]
      · simp only [if_true, Sem.run_bind, run_eqGuard_agg w _ t x y _ _ hg', Result.andThen_ok, run_neq_struct, hq]
    · cases e

theorem ok_eqb {t : TypeId} {x y : Operand} {a c : Bool} (hu : P.underlying t = some .bool) (neg : Bool) :
    (do eqGuard (if neg then .neq else .eql) t x y (.bool a) (.bool c); binOp (if neg then .neq else .eql) t (.bool a) (.bool c) : Sem Value).run P w = .ok (.bool (if neg then !(a == c) else a == c)) w :=
  eq_of (b := a == c) neg (fun op => by cases op <;> simp [eqGuard]) (fun _ => by rfl) rfl (by obtain ⟨d, hd⟩ := equal_succ; rw [hd]; exact run_equalIn_bool' w d t _ _ hu)

/-! ### Lists that grow -/

/-- Where the elements come from. -/
def srcT (P : Program) (t : TypeId) : Bool := match P.underlying t with
  | some (.slice _) | some .string => true
  | _ => false

theorem list?_rel {v : V} {m : Nat} {ys : List D} {x : Value} (e : v.list? = some (m, ys)) (r : V.rel μ S h v x) (i : Inv μ S h w) (sz : Nat) (hl : ys.length = m * sz) :
    ∃ vs : List Value, D.rels S ys vs ∧ Builtin.lenOf x = pure m ∧
      (∀ w' : World, (∀ b o u, S b o = some u → w'.cell? ⟨b, o, none⟩ = some u) → (Builtin.firstCells sz m x).run P w' = .ok vs.toArray w') ∧ (∀ u ∈ vs, cellVal u) := by
  have firm : ∀ (b o cap : Nat), x = .slice (some ⟨b, o, none⟩) m cap → D.relAt S ys b o → 
      ∃ vs : List Value, D.rels S ys vs ∧ Builtin.lenOf x = pure m ∧
      (∀ w' : World, (∀ b o u, S b o = some u → w'.cell? ⟨b, o, none⟩ = some u) → (Builtin.firstCells sz m x).run P w' = .ok vs.toArray w') ∧ (∀ u ∈ vs, cellVal u) := by
    rintro b o cap rfl hat
    obtain ⟨vs, r1, r2⟩ := D.relAt_vals hat
    refine ⟨vs, r1, rfl, ?_, ?_⟩
    · intro w' hw'
      refine run_firstCells_some w' sz m ⟨b, o, none⟩ _ _ vs (by rw [← D.rels_length r1]; exact hl) (fun j u hu => ?_)
      rw [Addr.add_plain]; exact hw' _ _ _ (r2 j u hu)
    · intro u hu
      obtain ⟨j, hj⟩ := List.getElem?_of_mem hu
      exact (i.st _ _ _ (r2 j u hj)).2
  have zero : ∀ (base : Option Addr) (cap : Nat), m = 0 → x = .slice base m cap → 
      ∃ vs : List Value, D.rels S ys vs ∧ Builtin.lenOf x = pure m ∧
      (∀ w' : World, (∀ b o u, S b o = some u → w'.cell? ⟨b, o, none⟩ = some u) → (Builtin.firstCells sz m x).run P w' = .ok vs.toArray w') ∧ (∀ u ∈ vs, cellVal u) := by
    rintro base cap rfl rfl
    have hy : ys = [] := List.length_eq_zero_iff.1 (by rw [hl]; simp)
    subst hy
    exact ⟨[], rfl, rfl, fun w' _ => by cases base <;> (simp [Builtin.firstCells]; try rfl), by simp⟩
  unfold V.list? at e
  split at e
  · rename_i sz0 n cells ex
    injection e with e; injection e with e1 e2; subst e1; subst e2
    obtain ⟨base, cap, hx, hnc, _, hl2, hb⟩ := r
    by_cases hc : 0 < cap
    · rcases hb with ⟨_, h0⟩ | ⟨b, o, sp, rfl, hat, hsp⟩
      · omega
      obtain rfl := hsp hc
      exact firm b o cap hx hat
    · exact zero base cap (by omega) hx
  · injection e with e; injection e with e1 e2; subst e1; subst e2
    obtain ⟨_, base, cap, hx, _, _, hb⟩ := r
    rcases hb with ⟨h0, _⟩ | ⟨_, b, rfl, hat, _⟩
    · exact zero base cap h0 hx
    · exact firm b 0 cap hx hat
  · injection e with e; injection e with e1 e2; subst e1; subst e2
    rw [show x = _ from r]
    exact ⟨[], rfl, rfl, fun w' _ => by simp [Builtin.firstCells]; try rfl, by simp⟩
  · cases e

end
end Go.Ev
