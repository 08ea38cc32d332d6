/- What the arguments read as, as plain data. -/
import Derived.Test.YtgkjmdbjncnlpaaDoorEvU
import Derived.OpenShut
import Derived.Carry
namespace Go.Ev
set_option linter.unusedVariables false
set_option linter.unusedSimpArgs false

/-- Types of arguments. -/
inductive Ty where
  | bool
  | int (k : IntKind)
  | str
  | sl (e : Ty)
  | ptr (e : Ty)
  | st (fs : List Ty)
  | arr (n : Nat) (e : Ty)

mutual
def Ty.n : Ty → Nat
  | .st fs => Ty.ns fs
  | .arr n e => n * e.n
  | _ => 1
def Ty.ns : List Ty → Nat
  | [] => 0
  | t :: ts => t.n + Ty.ns ts
end

mutual
def Ty.fits (P : Program) : Ty → TypeId → Bool
  | .bool, t => match P.underlying t with | some .bool => P.cellsOf t == 1 | _ => false
  | .int k, t => match P.underlying t with | some (.int k') => k' == k && P.cellsOf t == 1 | _ => false
  | .str, t => match P.underlying t with | some .string => P.cellsOf t == 1 | _ => false
  | .sl e, t => match P.underlying t with | some (.slice u) => e.fits P u && (0 < e.n) && P.cellsOf t == 1 | _ => false
  | .ptr e, t => match P.underlying t with | some (.pointer u) => e.fits P u && (0 < e.n) && P.cellsOf t == 1 | _ => false
  | .st fs, t => match P.underlying t with | some (.struct us) => Ty.fitss P fs us.toList 0 && P.cellsOf t == Ty.ns fs | _ => false
  | .arr n e, t => match P.underlying t with | some (.array m u) => m == n && e.fits P u && P.cellsOf t == n * e.n | _ => false
def Ty.fitss (P : Program) : List Ty → List Field → Nat → Bool
  | [], [], _ => true
  | t :: ts, f :: fs, o => f.offset == o && t.fits P f.type && Ty.fitss P ts fs (o + t.n)
  | _, _, _ => false
end

mutual
/-- A reading of a type, and its cells. -/
def Ty.Is {H : Type} : Ty → DataW H → List D → Prop
  | .bool, d, ds => ∃ b, d = .lit (.bool b) ∧ ds = [.bool b]
  | .int k, d, ds => ∃ n, d = .lit (.int k n) ∧ ds = [.int k n] ∧ (Lit.int k n).wf = true
  | .str, d, ds => ∃ l, d = .lit (.string l) ∧ ds = [.str l] ∧ l.length ≤ maxLen
  | .sl e, d, ds => ∃ els rest cells, (d = .slice els rest ∨ d = .nil ∧ els = [] ∧ rest = []) ∧ All2 (fun a b => Ty.Is e a b) els cells ∧ els.length + rest.length ≤ maxLen ∧
      ds = [.lst e.n els.length cells.flatten rest.isEmpty]
  | .ptr e, d, ds => (d = .nil ∧ ds = [.nilp]) ∨ ∃ d' c, d = .ptr d' ∧ Ty.Is e d' c ∧ ds = [.rp c]
  | .st fs, d, ds => ∃ els cells, d = .agg els ∧ Ty.Iss fs els cells ∧ ds = cells.flatten
  | .arr n e, d, ds => ∃ els cells, d = .agg els ∧ All2 (fun a b => Ty.Is e a b) els cells ∧ els.length = n ∧ ds = cells.flatten
def Ty.Iss {H : Type} : List Ty → List (DataW H) → List (List D) → Prop
  | [], els, cells => els = [] ∧ cells = []
  | t :: ts, els, cells => ∃ d dr c cr, els = d :: dr ∧ cells = c :: cr ∧ Ty.Is t d c ∧ Ty.Iss ts dr cr
end

/-- The firm cells of a world. -/
noncomputable def stab (w : World) : Stab := fun b o => match w.cell? ⟨b, o, none⟩ with
  | some v => @ite _ (cellVal v) (Classical.propDecidable _) (some v) none
  | none => none

theorem stab_inv (w : World) : Inv μ0 (stab w) [] w :=
  ⟨fun b o v e => (by
    unfold stab at e
    split at e
    · rename_i v' hv
      split at e
      · rename_i hc
        injection e with e; subst e; exact ⟨hv, hc⟩
      · cases e
    · cases e), fun k x e => by simp at e, fun k j x y e => by simp at e, fun k cs e => by simp at e, fun k sz n e => by simp at e⟩

theorem stab_of {w : World} {b o : Nat} {v : Value} (h : w.cell? ⟨b, o, none⟩ = some v) (hc : cellVal v) : stab w b o = some v := by
  unfold stab
  rw [h]
  exact if_pos hc

section
variable {H : Type} {enc : TypeId × Value → H} {P : Program} {W : World} {held : Bool}

/-- What is shown of a list of cells. -/
def Okc (S : Stab) (n : Nat) (ds : List D) (cs : List Value) : Prop := D.rels S ds cs ∧ ds.length = n ∧ ds.all cellD = true

theorem cells_at {a : Addr} {n : Nat} {cs : List Value} (h : W.cells? 0 a n = some cs) : cs.length = n ∧ ∀ i, i < n → W.cell? (a.add i) = cs[i]? := by
  unfold World.cells? at h
  rw [if_pos (Nat.zero_le _)] at h
  exact ⟨by simpa using mapM_some_length h, fun i hi => mapM_some_get h i i (by simp [hi])⟩

theorem spot_none {a : Addr} {v : Value} (h : W.cell? a = some v) : a.spot = none := by
  unfold World.cell? at h
  split at h
  · split at h
    · cases h
    · rename_i hn; simpa using hn
  · cases h

theorem okc_at {a : Addr} {n : Nat} {cs : List Value} {ds : List D} (hn : 0 < n) (h : W.cells? 0 a n = some cs) (k : Okc (stab W) n ds cs) : a.spot = none ∧ D.relAt (stab W) ds a.block a.off := by
  obtain ⟨h1, h2⟩ := cells_at h
  have hsp : a.spot = none := by
    have h3 := h2 0 hn
    rw [List.getElem?_eq_getElem (by omega)] at h3
    have := spot_none h3
    simpa [Addr.add] using this
  refine ⟨hsp, D.relAt_of _ _ k.1 fun j v hj => ?_⟩
  have hjn : j < n := by rw [← h1]; exact lt_of_get hj
  have h3 := h2 j hjn
  rw [hj] at h3
  obtain ⟨b, o, sp⟩ := a
  simp only at hsp
  subst hsp
  rw [Addr.add_plain] at h3
  exact stab_of h3 (cellD_all k.2.2 k.1 v (List.mem_of_getElem? hj))

/-- Elements at places in a row. -/
theorem okc_row {R : DataW H → List D → Prop} {sz b o : Nat} : ∀ (els : List (DataW H × List MemPlace)) (k : Nat),
    (∀ (i : Nat) x, els[i]? = some x → ∃ ds, R x.1 ds ∧ ds.length = sz ∧ ds.all cellD = true ∧ D.relAt (stab W) ds b (o + (k + i) * sz)) →
    ∃ cells, All2 R (els.map (·.1)) cells ∧ cells.flatten.length = els.length * sz ∧ cells.flatten.all cellD = true ∧ D.relAt (stab W) cells.flatten b (o + k * sz)
  | [], k, _ => ⟨[], .nil, by simp, rfl, trivial⟩
  | x :: els, k, h => by
    obtain ⟨ds, r, h1, h2, h3⟩ := h 0 x rfl
    obtain ⟨cells, g1, g2, g3, g4⟩ := okc_row (R := R) (sz := sz) (b := b) (o := o) els (k + 1) (fun i y hy => by
      have := h (i + 1) y (by simpa using hy)
      rw [show k + 1 + i = k + (i + 1) by omega]; exact this)
    refine ⟨ds :: cells, .cons r g1, by simp only [List.flatten_cons, List.length_append, h1, g2, List.length_cons]; rw [Nat.add_mul]; omega, by simp only [List.flatten_cons, List.all_append, h2, g3, Bool.and_self], ?_⟩
    rw [List.flatten_cons]
    refine D.relAt_append (by simpa using h3) ?_
    rw [h1, show o + k * sz + sz = o + (k + 1) * sz by rw [Nat.add_mul]; omega]
    exact g4

theorem okc_arr {R : DataW H → List D → Prop} {sz : Nat} {S : Stab} {cs : List Value} : ∀ (els : List (DataW H × List MemPlace)) (k : Nat),
    (∀ (i : Nat) x, els[i]? = some x → ∃ ds, R x.1 ds ∧ Okc S sz ds ((cs.drop ((k + i) * sz)).take sz)) → cs.length = (k + els.length) * sz →
    ∃ cells, All2 R (els.map (·.1)) cells ∧ Okc S (els.length * sz) cells.flatten (cs.drop (k * sz))
  | [], k, _, hl => ⟨[], .nil, by
      have : cs.drop (k * sz) = [] := List.drop_eq_nil_iff.2 (by simpa using Nat.le_of_eq hl)
      rw [this]; exact ⟨rfl, by simp, rfl⟩⟩
  | x :: els, k, h, hl => by
    obtain ⟨ds, r, h1, h2, h3⟩ := h 0 x rfl
    obtain ⟨cells, g1, g2, g3, g4⟩ := okc_arr (R := R) (sz := sz) (S := S) (cs := cs) els (k + 1) (fun i y hy => by
      have := h (i + 1) y (by simpa using hy)
      rw [show k + 1 + i = k + (i + 1) by omega]; exact this) (by rw [hl, List.length_cons]; congr 1; omega)
    refine ⟨ds :: cells, .cons r g1, ?_, ?_, ?_⟩
    · rw [List.flatten_cons]
      have e : cs.drop (k * sz) = (cs.drop (k * sz)).take sz ++ cs.drop ((k + 1) * sz) := by
        have := (List.take_append_drop sz (cs.drop (k * sz))).symm
        rw [List.drop_drop, show k * sz + sz = (k + 1) * sz by rw [Nat.add_mul]; omega] at this
        exact this
      rw [e]
      exact D.rels_append (by simpa using h1) g2
    · simp only [List.flatten_cons, List.length_append, h2, g3, List.length_cons]; rw [Nat.add_mul]; omega
    · simp only [List.flatten_cons, List.all_append, h3, g4, Bool.and_self]

mutual
theorem trod_is : ∀ (ty : Ty) (t : TypeId) (cs : List Value) (fuel : Nat) (x : DataW H × List MemPlace), ty.fits P t = true →
    DataW.trod enc P W 0 (fun _ => true) held fuel t cs = some x → ∃ ds, ty.Is x.1 ds ∧ Okc (stab W) ty.n ds cs
  | .bool, t, cs, fuel, x, hf, h => by
    unfold Ty.fits at hf
    split at hf
    · rename_i hu
      obtain ⟨b, rfl, rfl⟩ := DataW.trod_bool hu h
      exact ⟨[.bool b], ⟨b, rfl, rfl⟩, ⟨_, _, rfl, rfl, rfl⟩, rfl, rfl⟩
    · cases hf
  | .int k, t, cs, fuel, x, hf, h => by
    unfold Ty.fits at hf
    split at hf
    · rename_i k' hu
      simp only [Bool.and_eq_true, beq_iff_eq] at hf
      obtain ⟨rfl, _⟩ := hf
      obtain ⟨n, rfl, rfl, hw⟩ := DataW.trod_int hu h
      exact ⟨[.int k' n], ⟨n, rfl, rfl, hw⟩, ⟨_, _, rfl, rfl, rfl⟩, rfl, rfl⟩
    · cases hf
  | .str, t, cs, fuel, x, hf, h => by
    unfold Ty.fits at hf
    split at hf
    · rename_i hu
      obtain ⟨s, rfl, rfl, hw⟩ := DataW.trod_string hu h
      exact ⟨[.str s.data.toList], ⟨_, rfl, rfl, Nat.le_trans (Nat.le_of_eq (show s.data.toList.length = s.size from Array.length_toList)) hw⟩, ⟨_, _, rfl, by simp [D.rel], rfl⟩, rfl, rfl⟩
    · cases hf
  | .sl e, t, cs, fuel, x, hf, h => by
    unfold Ty.fits at hf
    split at hf
    · rename_i u hu
      simp only [Bool.and_eq_true, decide_eq_true_eq, beq_iff_eq] at hf
      obtain ⟨⟨hf, hn⟩, hc⟩ := hf
      rcases DataW.trod_slice hu h with ⟨rfl, rfl⟩ | ⟨a, len, cap, elems, rest, n, rfl, rfl, rfl, hb, hl, hm, hel, h1, h2, h3⟩
      · exact ⟨[.lst e.n 0 [] true], ⟨[], [], [], .inr ⟨rfl, rfl, rfl⟩, .nil, Nat.zero_le _, rfl⟩, ⟨_, _, rfl, lst_zero rfl rfl (by simp), rfl⟩, rfl, rfl⟩
      · have hcu : P.cellsOf u = e.n := fits_n e u hf
        obtain ⟨hr1, hr2⟩ := h2 rfl
        have hspot : 0 < cap → a.spot = none := fun hcap => by
          by_cases hz : elems.length = 0
          · have h8 := hr2 0 (by omega)
            rw [List.getElem?_eq_getElem (show 0 < rest.length by omega), Option.bind_eq_some_iff] at h8
            obtain ⟨cs0, k1, k2⟩ := h8
            obtain ⟨ds0, _, q0⟩ := trod_is e u cs0 n _ hf k2
            have := (okc_at (by omega) (hcu ▸ k1) q0).1
            simpa [Addr.add, show len = 0 by omega] using this
          · have h8 := h1 0 (by omega)
            rw [List.getElem?_eq_getElem (show 0 < elems.length by omega), Option.bind_eq_some_iff] at h8
            obtain ⟨cs0, k1, k2⟩ := h8
            obtain ⟨ds0, _, q0⟩ := trod_is e u cs0 n _ hf k2
            have := (okc_at (by omega) (hcu ▸ k1) q0).1
            simpa [Addr.add] using this
        obtain ⟨cells, g1, g2, g3, g4⟩ := okc_row (W := W) (R := fun a b => e.Is a b) (sz := e.n) (b := a.block) (o := a.off) elems 0 (fun i y hy => by
          have hi : i < len := by rw [← hel]; exact lt_of_get hy
          have h4 := h1 i hi
          rw [hy, Option.bind_eq_some_iff] at h4
          obtain ⟨cs', h5, h6⟩ := h4
          obtain ⟨ds, r, q⟩ := trod_is e u cs' n y hf h6
          obtain ⟨k1, k2⟩ := okc_at (by omega) (hcu ▸ h5) q
          refine ⟨ds, r, q.2.1, q.2.2, ?_⟩
          have hsp := hspot (by omega)
          obtain ⟨b, o, sp⟩ := a
          simp only at hsp
          subst hsp
          rw [Addr.add_plain] at k2
          simpa [hcu] using k2)
        refine ⟨[.lst e.n elems.length cells.flatten (rest.map (·.1)).isEmpty], ⟨_, _, cells, .inl rfl, g1, ?_, ?_⟩, ⟨_, _, rfl, ?_, rfl⟩, rfl, rfl⟩
        · simp; omega
        · simp
        · refine ⟨some a, cap, by rw [hel], by omega, fun q => ?_, g2, .inr ⟨a.block, a.off, a.spot, rfl, by simpa using g4, hspot⟩⟩
          have : rest = [] := by simpa using q
          rw [this] at hr1; simp at hr1; omega
    · cases hf
  | .ptr e, t, cs, fuel, x, hf, h => by
    unfold Ty.fits at hf
    split at hf
    · rename_i u hu
      simp only [Bool.and_eq_true, decide_eq_true_eq, beq_iff_eq] at hf
      obtain ⟨⟨hf, hn⟩, hc⟩ := hf
      rcases DataW.trod_pointer hu h with ⟨rfl, rfl⟩ | ⟨a, cs', y, n, rfl, rfl, rfl, h1, h2⟩
      · exact ⟨[.nilp], .inl ⟨rfl, rfl⟩, ⟨_, _, rfl, rfl, rfl⟩, rfl, rfl⟩
      · obtain ⟨ds, r, q⟩ := trod_is e u cs' n y hf h2
        have hcu : P.cellsOf u = e.n := fits_n e u hf
        obtain ⟨k1, k2⟩ := okc_at hn (hcu ▸ h1) q
        obtain ⟨b, o, sp⟩ := a
        simp only at k1
        subst k1
        exact ⟨[.rp ds], .inr ⟨_, _, rfl, r, rfl⟩, ⟨_, _, rfl, ⟨b, o, rfl, k2⟩, rfl⟩, rfl, rfl⟩
    · cases hf
  | .st fs, t, cs, fuel, x, hf, h => by
    unfold Ty.fits at hf
    split at hf
    · rename_i us hu
      simp only [Bool.and_eq_true, beq_iff_eq] at hf
      obtain ⟨hf, hc⟩ := hf
      obtain ⟨xs, n, rfl, rfl, hl, hx, hfs⟩ := DataW.trod_struct hu h
      obtain ⟨cells, g1, g2⟩ := trod_iss fs us.toList 0 cs n xs hf (by simpa using hx) (fun i f hi => hfs i f (by simpa using hi)) (by rw [hl, hc]; simp)
      exact ⟨cells.flatten, ⟨_, cells, rfl, g1, rfl⟩, by simpa [Ty.n] using g2⟩
    · cases hf
  | .arr n e, t, cs, fuel, x, hf, h => by
    unfold Ty.fits at hf
    split at hf
    · rename_i m u hu
      simp only [Bool.and_eq_true, beq_iff_eq] at hf
      obtain ⟨⟨rfl, hf⟩, hc⟩ := hf
      obtain ⟨xs, n', rfl, rfl, hl, hx, hel⟩ := DataW.trod_array hu h
      have hcu : P.cellsOf u = e.n := fits_n e u hf
      obtain ⟨cells, g1, g2⟩ := okc_arr (R := fun a b => e.Is a b) (sz := e.n) (S := stab W) (cs := cs) xs 0 (fun i y hy => by
        have h4 := hel i (by rw [← hx]; exact lt_of_get hy)
        rw [hy, hcu] at h4
        obtain ⟨ds, r, q⟩ := trod_is e u _ n' y hf h4
        exact ⟨ds, r, by simpa using q⟩) (by rw [hl, hc, hx]; simp)
      exact ⟨cells.flatten, ⟨_, cells, rfl, g1, by simpa using hx, rfl⟩, by simpa [Ty.n, hx] using g2⟩
    · cases hf
theorem trod_iss : ∀ (tys : List Ty) (us : List Field) (o : Nat) (cs : List Value) (n : Nat) (xs : List (DataW H × List MemPlace)), Ty.fitss P tys us o = true → xs.length = us.length →
    (∀ (i : Nat) (f : Field), us[i]? = some f → DataW.trod enc P W 0 (fun _ => true) held n f.type ((cs.drop f.offset).take (P.cellsOf f.type)) = xs[i]?) → cs.length = o + Ty.ns tys →
    ∃ cells, Ty.Iss tys (xs.map (·.1)) cells ∧ Okc (stab W) (Ty.ns tys) cells.flatten (cs.drop o)
  | [], [], o, cs, n, xs, hf, hl, h, hc => by
    have : xs = [] := List.length_eq_zero_iff.1 hl
    subst this
    refine ⟨[], ⟨rfl, rfl⟩, ?_⟩
    have : cs.drop o = [] := List.drop_eq_nil_iff.2 (by simp [Ty.ns] at hc; omega)
    rw [this]; exact ⟨rfl, rfl, rfl⟩
  | t :: ts, f :: fs, o, cs, n, x :: xs, hf, hl, h, hc => by
    simp only [Ty.fitss, Bool.and_eq_true, beq_iff_eq] at hf
    obtain ⟨⟨hfo, hf1⟩, hf2⟩ := hf
    have h1 := h 0 f rfl
    simp only [List.getElem?_cons_zero] at h1
    have hcu : P.cellsOf f.type = t.n := fits_n t _ hf1
    obtain ⟨ds, r, q⟩ := trod_is t f.type _ n x hf1 h1
    obtain ⟨cells, g1, g2⟩ := trod_iss ts fs (o + t.n) cs n xs hf2 (by simpa using hl) (fun i f hi => by simpa using h (i + 1) f (by simpa using hi)) (by simp only [Ty.ns] at hc; omega)
    refine ⟨ds :: cells, ⟨_, _, _, _, rfl, rfl, r, g1⟩, ?_, ?_, ?_⟩
    · rw [hfo, hcu] at q
      have e : cs.drop o = (cs.drop o).take t.n ++ cs.drop (o + t.n) := by
        have := (List.take_append_drop t.n (cs.drop o)).symm
        rw [List.drop_drop] at this; exact this
      rw [e, List.flatten_cons]
      exact D.rels_append q.1 g2.1
    · simp only [List.flatten_cons, List.length_append, q.2.1, g2.2.1, Ty.ns]
    · simp only [List.flatten_cons, List.all_append, q.2.2, g2.2.2, Bool.and_self]
  | [], f :: fs, o, cs, n, xs, hf, hl, h, hc => by simp [Ty.fitss] at hf
  | t :: ts, [], o, cs, n, xs, hf, hl, h, hc => by simp [Ty.fitss] at hf
  | t :: ts, f :: fs, o, cs, n, [], hf, hl, h, hc => by simp at hl
theorem fits_n : ∀ (ty : Ty) (t : TypeId), ty.fits P t = true → P.cellsOf t = ty.n
  | .bool, t, hf | .str, t, hf => by
    unfold Ty.fits at hf; split at hf
    · simpa [Ty.n] using hf
    · cases hf
  | .int k, t, hf => by
    unfold Ty.fits at hf; split at hf
    · simp only [Bool.and_eq_true, beq_iff_eq] at hf; exact hf.2
    · cases hf
  | .sl e, t, hf | .ptr e, t, hf => by
    unfold Ty.fits at hf; split at hf
    · simp only [Bool.and_eq_true, beq_iff_eq] at hf; exact hf.2
    · cases hf
  | .st fs, t, hf => by
    unfold Ty.fits at hf; split at hf
    · simp only [Bool.and_eq_true, beq_iff_eq] at hf; exact hf.2
    · cases hf
  | .arr n e, t, hf => by
    unfold Ty.fits at hf; split at hf
    · simp only [Bool.and_eq_true, beq_iff_eq] at hf; exact hf.2
    · cases hf
end

end
end Go.Ev
