/- What each operation of the machine does, in the abstract operations' words: memory. -/
import Derived.Test.YtgkjmdbjncnlpaaDoorEvE
import Derived.Laws.Cells
import Derived.Laws.AppendOwn
import Derived.Laws.MakeOwn
import Derived.Laws.Strings
import Derived.Laws.Slices
namespace Go.Ev
set_option linter.unusedVariables false
set_option linter.unusedSimpArgs false

def szT (P : Program) (t : TypeId) : Option Nat := (P.info? t).map (·.size)
def agT (P : Program) (t : TypeId) : Option Bool := (P.underlying t).map fun d => match d with
  | .struct _ => true
  | .array _ _ => true
  | _ => false

theorem run_sizeOf {P : Program} {t : TypeId} {n : Nat} (h : szT P t = some n) (w : World) : (sizeOf t).run P w = .ok n w := by
  unfold szT at h
  cases hi : P.info? t with
  | none => simp [hi] at h
  | some i => simp [hi] at h; simp [sizeOf, typeInfo, hi, h]

theorem run_underlying {P : Program} {t : TypeId} {d : TypeDesc} (h : P.underlying t = some d) (w : World) : (underlying t).run P w = .ok d w := by
  simp [underlying, h]

theorem run_isAgg {P : Program} {t : TypeId} {b : Bool} (h : agT P t = some b) (w : World) : (isAgg t).run P w = .ok b w := by
  unfold agT at h
  cases hu : P.underlying t with
  | none => simp [hu] at h
  | some d => simp [hu] at h; subst h; simp only [isAgg, Sem.run_bind, run_underlying hu, Result.andThen_ok]; cases d <;> rfl

theorem Addr.add_plain (b o j : Nat) : (⟨b, o, none⟩ : Addr).add j = ⟨b, o + j, none⟩ := by
  unfold Addr.add; split
  · rename_i h; subst h; rfl
  · rfl

section
variable {μ : Mu} {S : Stab} {h : List Blk} {w : World}

theorem V.rels_drop : ∀ {xs : List V} {vs : List Value} (n : Nat), V.rels μ S h xs vs → V.rels μ S h (xs.drop n) (vs.drop n)
  | _, _, 0, r => r
  | [], _, n + 1, r => by rw [show _ = [] from r]; rfl
  | x :: xs, _, n + 1, ⟨v, ws, e, _, r⟩ => by subst e; simpa using V.rels_drop n r

theorem V.rels_take : ∀ {xs : List V} {vs : List Value} (n : Nat), V.rels μ S h xs vs → V.rels μ S h (xs.take n) (vs.take n)
  | _, _, 0, _ => by simp [V.rels]
  | [], _, n + 1, r => by rw [show _ = [] from r]; rfl
  | x :: xs, _, n + 1, ⟨v, ws, e, r0, r⟩ => by subst e; exact ⟨v, ws.take n, by simp, r0, V.rels_take n r⟩

theorem D.rels_drop : ∀ {xs : List D} {vs : List Value} (n : Nat), D.rels S xs vs → D.rels S (xs.drop n) (vs.drop n)
  | _, _, 0, r => r
  | [], _, n + 1, r => by rw [show _ = [] from r]; rfl
  | x :: xs, _, n + 1, ⟨v, ws, e, _, r⟩ => by subst e; simpa using D.rels_drop n r

theorem D.rels_take : ∀ {xs : List D} {vs : List Value} (n : Nat), D.rels S xs vs → D.rels S (xs.take n) (vs.take n)
  | _, _, 0, _ => by simp [D.rels]
  | [], _, n + 1, r => by rw [show _ = [] from r]; rfl
  | x :: xs, _, n + 1, ⟨v, ws, e, r0, r⟩ => by subst e; exact ⟨v, ws.take n, by simp, r0, D.rels_take n r⟩

theorem D.rels_get : ∀ {xs : List D} {vs : List Value} (i : Nat) (x : D), D.rels S xs vs → xs[i]? = some x → ∃ v, vs[i]? = some v ∧ D.rel S x v
  | [], _, i, x, _, e => by simp at e
  | y :: ys, _, 0, x, ⟨v, ws, e, r, _⟩, e' => by subst e; simp at e'; subst e'; exact ⟨v, rfl, r⟩
  | y :: ys, _, i + 1, x, ⟨v, ws, e, _, r⟩, e' => by subst e; simp at e'; simpa using D.rels_get i x r e'

theorem allD_eq : ∀ {cs : List V} {ds : List D}, allD cs = some ds → cs = ds.map V.d
  | [], ds, e => by simp [allD] at e; subst e; rfl
  | .d x :: r, ds, e => by
    simp only [allD, Option.map_eq_some_iff] at e
    obtain ⟨a, e1, e2⟩ := e
    subst e2; simp [allD_eq e1]
  | .ptr _ _ :: _, _, e | .gs _ _ _ _ :: _, _, e | .sl _ _ _ _ _ :: _, _, e | .agg _ :: _, _, e | .tup _ :: _, _, e | .fn _ _ _ :: _, _, e | .ifc _ _ :: _, _, e => by simp [allD] at e

theorem mkAgg_rel {cs : List V} {vs : List Value} (r : V.rels μ S h cs vs) : V.rel μ S h (mkAgg cs) (.agg vs.toArray) := by
  unfold mkAgg
  split
  · rename_i ds e
    have := allD_eq e
    subst this
    exact ⟨vs, rfl, V.rels_d.1 r⟩
  · exact ⟨vs, rfl, r⟩

theorem cellD_val {x : D} {v : Value} (c : cellD x = true) (r : D.rel S x v) : cellVal v := by
  cases x with
  | bool b => rw [show v = _ from r]; trivial
  | int k n => rw [show v = _ from r]; trivial
  | str l => rw [show v = _ from r]; trivial
  | nilp => rw [show v = _ from r]; trivial
  | nils => rw [show v = _ from r]; trivial
  | nilm => rw [show v = _ from r]; trivial
  | nilf => rw [show v = _ from r]; trivial
  | nili => rw [show v = _ from r]; trivial
  | lst => obtain ⟨b, cap, e, _⟩ := r; rw [e]; trivial
  | rp => obtain ⟨b, o, e, _⟩ := r; rw [e]; trivial
  | agg => cases c
  | tup => cases c
  | fn => obtain ⟨a, b, e, _⟩ := r; rw [e]; trivial
  | ifc => obtain ⟨u, e, _⟩ := r; rw [e]; trivial
  | undef => cases c

theorem cellV_val {x : V} {v : Value} (c : cellV x = true) (r : V.rel μ S h x v) : cellVal v := by
  cases x with
  | d x => exact cellD_val c r
  | ptr => obtain ⟨_, _, e⟩ := r; rw [e]; trivial
  | gs => obtain ⟨_, b, cap, e, _⟩ := r; rw [e]; trivial
  | sl => obtain ⟨_, _, _, e⟩ := r; rw [e]; trivial
  | agg => cases c
  | tup => cases c
  | fn => obtain ⟨a, b, e, _⟩ := r; rw [e]; trivial
  | ifc => obtain ⟨u, e, _⟩ := r; rw [e]; trivial

theorem cells_of_cellVal {v : Value} (c : cellVal v) : v.cells = #[v] := by
  cases v <;> first | rfl | exact c.elim

theorem cellV_all : ∀ {cs : List V} {vs : List Value}, cs.all cellV = true → V.rels μ S h cs vs → ∀ v ∈ vs, cellVal v
  | [], _, _, r, v, hv => by rw [show _ = [] from r] at hv; cases hv
  | c :: cs, _, hc, ⟨u, ws, e, r0, r⟩, v, hv => by
    subst e
    simp only [List.all_cons, Bool.and_eq_true] at hc
    cases hv with
    | head => exact cellV_val hc.1 r0
    | tail _ hm => exact cellV_all hc.2 r v hm

theorem cellD_all : ∀ {cs : List D} {vs : List Value}, cs.all cellD = true → D.rels S cs vs → ∀ v ∈ vs, cellVal v
  | [], _, _, r, v, hv => by rw [show _ = [] from r] at hv; cases hv
  | c :: cs, _, hc, ⟨u, ws, e, r0, r⟩, v, hv => by
    subst e
    simp only [List.all_cons, Bool.and_eq_true] at hc
    cases hv with
    | head => exact cellD_val hc.1 r0
    | tail _ hm => exact cellD_all hc.2 r v hm

theorem cellsOf_rel {x : V} {cs : List V} {v : Value} (e : x.cellsOf = some cs) (r : V.rel μ S h x v) :
    ∃ vs : List Value, v.cells = vs.toArray ∧ V.rels μ S h cs vs ∧ ∀ u ∈ vs, cellVal u := by
  have one : ∀ {x : V}, cellV x = true → V.rel μ S h x v → cs = [x] → ∃ vs : List Value, v.cells = vs.toArray ∧ V.rels μ S h cs vs ∧ ∀ u ∈ vs, cellVal u := by
    intro x c r e
    subst e
    have cv := cellV_val c r
    exact ⟨[v], cells_of_cellVal cv, ⟨v, [], rfl, r, rfl⟩, by simpa using cv⟩
  cases x with
  | d y =>
    cases y with
    | agg ds =>
      simp only [V.cellsOf] at e
      split at e
      · rename_i c
        injection e with e; subst e
        obtain ⟨vs, e2, r2⟩ := r
        exact ⟨vs, by rw [e2]; rfl, V.rels_d.2 r2, cellD_all c r2⟩
      · cases e
    | tup => simp [V.cellsOf, cellV, cellD] at e
    | undef => simp [V.cellsOf, cellV, cellD] at e
    | _ => simp [V.cellsOf, cellV, cellD] at e; exact one (by rfl) r e.symm
  | agg ds =>
    simp only [V.cellsOf] at e
    split at e
    · rename_i c
      injection e with e; subst e
      obtain ⟨vs, e2, r2⟩ := r
      exact ⟨vs, by rw [e2]; rfl, r2, cellV_all c r2⟩
    · cases e
  | tup => simp [V.cellsOf, cellV] at e
  | _ => simp [V.cellsOf, cellV] at e; exact one (by rfl) r e.symm

/-- A load. -/
theorem ok_load {P : Program} (i : Inv μ S h w) {t : TypeId} {ag : Bool} {n : Nat} {a v : V} {x : Value} (hs : szT P t = some n) (ha : agT P t = some ag)
    (e : loadV ag n h a = some v) (r : V.rel μ S h a x) : ∃ y, (Instr.loadAt t x).run P w = .ok y w ∧ V.rel μ S h v y := by
  have cells : ∀ (b o : Nat) (vs : List Value), (∀ (j : Nat) u, vs[j]? = some u → w.cell? ⟨b, o + j, none⟩ = some u) → vs.length = n → ag = true →
      (loadVar t ⟨b, o, none⟩).run P w = .ok (.agg vs.toArray) w := by
    intro b o vs hv hl hag
    subst hag
    simp only [loadVar, Sem.run_bind, run_isAgg ha, Result.andThen_ok, if_true, run_sizeOf hs]
    rw [← hl, run_loadCells_list (a := ⟨b, o, none⟩) (cs := vs) (h := fun j u hu => by rw [Addr.add_plain]; exact hv j u hu)]
    simp
  have cell : ∀ (b o : Nat) (u : Value), w.cell? ⟨b, o, none⟩ = some u → ag = false → (loadVar t ⟨b, o, none⟩).run P w = .ok u w := by
    intro b o u hu hag
    subst hag
    simp only [loadVar, Sem.run_bind, run_isAgg ha, Result.andThen_ok, Bool.false_eq_true, if_false, run_load, hu]
  unfold loadV at e
  split at e
  · rename_i id off
    obtain ⟨_, _, rfl⟩ := r
    split at e
    · rename_i cs hcs
      obtain ⟨vals, el, hb, hvs, hcv⟩ := i.bl id _ hcs
      have hrow : ∀ j, w.cell? ⟨(μ id).blk, j, none⟩ = vals[j]? := fun j => by rw [cell_of_row _ _ _ _ _ _ hb]; simp
      simp only [Instr.loadAt, Instr.sureAddr, Sem.run_bind, Sem.run_pure, Result.andThen_ok]
      split at e
      · rename_i hag
        split at e
        · rename_i hl
          injection e with e; subst e
          have hr := V.rels_take n (V.rels_drop off hvs)
          refine ⟨_, cells _ off _ (fun j u hu => ?_) (by rw [← V.rels_length hr]; exact hl) hag, mkAgg_rel hr⟩
          have hj : j < n := by have := lt_of_get hu; rw [← V.rels_length hr, hl] at this; exact this
          rw [List.getElem?_take_of_lt hj, List.getElem?_drop] at hu
          rw [hrow]; exact hu
        · cases e
      · rename_i hag
        obtain ⟨u, hu, hr⟩ := V.rels_get off v hvs e
        exact ⟨u, cell _ off u (by rw [hrow]; exact hu) (by simpa using hag), hr⟩
    · cases e
  · rename_i ds
    obtain ⟨b, o, rfl, hat⟩ := r
    simp only [Instr.loadAt, Instr.sureAddr, Sem.run_bind, Sem.run_pure, Result.andThen_ok]
    split at e
    · rename_i hag
      split at e
      · rename_i hl
        injection e with e; subst e
        obtain ⟨vs, r1, r2⟩ := D.relAt_vals (D.relAt_take n hat)
        exact ⟨_, cells b o vs (fun j u hu => (i.st _ _ _ (r2 j u hu)).1) (by rw [← D.rels_length r1]; exact hl) hag, ⟨vs, rfl, r1⟩⟩
      · cases e
    · rename_i hag
      cases ds with
      | nil => simp at e
      | cons d ds =>
        simp at e; subst e
        obtain ⟨⟨u, h1, h2⟩, _⟩ := hat
        exact ⟨u, cell b o u (i.st _ _ _ h1).1 (by simpa using hag), h2⟩
  · cases e

theorem splice_length : ∀ (xs : List V) (cs : List V) (off : Nat), (splice cs off xs).length = cs.length
  | [], _, _ => rfl
  | _ :: xs, cs, off => by simp [splice, splice_length xs]

theorem oneCell_of {v : Value} (c : cellVal v) : v.oneCell' = true := by
  cases v <;> first | rfl | exact c.elim

/-- Cells written one behind the other. -/
theorem ok_storeCells {P : Program} : ∀ (xs : List V) (vs : List Value) {h : List Blk} {w : World} (i : Inv μ S h w) {id off k : Nat} {cs : List V},
    h[id]? = some (.cells cs) → V.rels μ S h xs vs → (∀ v ∈ vs, cellVal v) → off + k + xs.length ≤ cs.length →
    ∃ w', (storeCells ⟨(μ id).blk, off, none⟩ vs k).run P w = .ok () w' ∧ Tr μ S h w μ S (h.set id (.cells (splice cs (off + k) xs))) w'
  | [], _, h, w, i, id, off, k, cs, hid, r, hv, hl => by
    rw [show _ = [] from r]
    refine ⟨w, by simp [storeCells], ?_⟩
    have : h.set id (.cells (splice cs (off + k) [])) = h := by
      apply List.ext_getElem?; intro j
      rw [List.getElem?_set]
      split
      · rename_i q; subst q
        obtain ⟨hlt, he⟩ := List.getElem?_eq_some_iff.1 hid
        rw [if_pos hlt, hid]; rfl
      · rfl
    rw [this]; exact Tr.refl i
  | x :: xs, _, h, w, i, id, off, k, cs, hid, ⟨v, ws, e, r0, r⟩, hv, hl => by
    subst e
    have hcv : cellVal v := hv v (List.mem_cons_self ..)
    obtain ⟨vals, el, hb, hvs, hcv'⟩ := i.bl id _ hid
    have hlen := V.rels_length hvs
    have hlt : off + k < vals.length := by simp at hl; omega
    have t1 := tr_store (off := off + k) i hid r0 hcv
    have hcell : w.cell? ⟨(μ id).blk, off + k, none⟩ = some vals[off + k] := by rw [cell_of_row _ _ _ _ _ _ hb]; simp [hlt]
    have hfr := frozen_of_row _ _ (off + k) _ _ hb
    have hid2 : (h.set id (.cells (cs.set (off + k) x)))[id]? = some (.cells (cs.set (off + k) x)) := List.getElem?_set_self (lt_of_get hid)
    obtain ⟨w', hrun, t2⟩ := ok_storeCells (P := P) xs ws t1.inv (off := off) (k := k + 1) hid2 (V.rels_mono t1.kp _ _ r) (fun u hu => hv u (List.mem_cons_of_mem _ hu)) (by simp at hl ⊢; omega)
    refine ⟨w', ?_, ?_⟩
    · simp only [storeCells, Sem.run_bind, Addr.add_plain]
      rw [run_store P w _ _ _ (oneCell_of hcv)]
      simp only [hcell, hfr]
      simpa using hrun
    · have := t1.trans t2
      rw [List.set_set] at this
      exact this

/-- A store. -/
theorem ok_store {P : Program} (i : Inv μ S h w) {t : TypeId} {n : Nat} {a b : V} {x y : Value} {h' : List Blk} (hs : szT P t = some n)
    (e : storeV n h b a = some h') (ra : V.rel μ S h a x) (rb : V.rel μ S h b y) :
    ∃ w', (Instr.storeAt t x y).run P w = .ok () w' ∧ Tr μ S h w μ S h' w' := by
  unfold storeV at e
  split at e
  · rename_i id off
    obtain ⟨_, _, rfl⟩ := ra
    split at e
    · rename_i cs c hcs hc
      split at e
      · rename_i hl
        injection e with e; subst e
        obtain ⟨vs, e1, r1, c1⟩ := cellsOf_rel hc rb
        obtain ⟨w', hrun, t⟩ := ok_storeCells (P := P) c vs i (off := off) (k := 0) hcs r1 c1 (by omega)
        refine ⟨w', ?_, t⟩
        have hsz : y.cells.size = n := by rw [e1]; simp [← V.rels_length r1, hl.1]
        simp only [Instr.storeAt, Instr.sureAddr, Sem.run_bind, Sem.run_pure, Result.andThen_ok, storeVar, run_sizeOf hs, hsz, ne_eq, not_true_eq_false, if_false]
        rw [e1]; simpa using hrun
      · cases e
    · cases e
  · cases e

end
end Go.Ev
