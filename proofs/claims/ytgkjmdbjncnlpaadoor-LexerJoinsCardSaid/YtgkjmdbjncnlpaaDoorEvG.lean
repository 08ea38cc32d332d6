/- What each operation of the machine does, in the abstract operations' words: making, addresses, parts. -/
import Derived.Test.YtgkjmdbjncnlpaaDoorEvF
import Derived.Laws.Tables
namespace Go.Ev
set_option linter.unusedVariables false
set_option linter.unusedSimpArgs false

inductive All2 {α β : Type} (R : α → β → Prop) : List α → List β → Prop where
  | nil : All2 R [] []
  | cons {a b as bs} : R a b → All2 R as bs → All2 R (a :: as) (b :: bs)

theorem D.rels_append {S : Stab} : ∀ {xs ys : List D} {vs us : List Value}, D.rels S xs vs → D.rels S ys us → D.rels S (xs ++ ys) (vs ++ us)
  | [], _, _, _, r, r' => by rw [show _ = [] from r]; exact r'
  | x :: xs, _, _, _, ⟨v, ws, e, r0, r⟩, r' => by subst e; exact ⟨v, ws ++ _, rfl, r0, D.rels_append r r'⟩

/-- A constant's data. -/
def D.ofV : Nat → Value → Option D
  | 0, _ => none
  | n + 1, v => match v with
    | .bool b => some (.bool b)
    | .int k i => some (.int k i)
    | .string s => some (.str s.data.toList)
    | .pointer none => some .nilp
    | .slice none 0 0 => some .nils
    | .map none => some .nilm
    | .nilFunc => some .nilf
    | .nilIface => some .nili
    | .agg cs => (cs.toList.mapM (D.ofV n)).map .agg
    | .tuple cs => (cs.toList.mapM (D.ofV n)).map .tup
    | .func (.func f) a b => match a.toList.mapM (D.ofV n), b.toList.mapM (D.ofV n) with
      | some a, some b => some (.fn f a b)
      | _, _ => none
    | .iface t x => (D.ofV n x).map (.ifc t)
    | _ => none

theorem D.ofVs_rel {n : Nat} {S : Stab} (ih : ∀ (v : Value) (d : D), D.ofV n v = some d → D.rel S d v) : ∀ (vs : List Value) (ds : List D), vs.mapM (D.ofV n) = some ds → D.rels S ds vs
  | [], ds, e => by simp at e; subst e; rfl
  | v :: vs, ds, e => by
    simp only [List.mapM_cons, Option.pure_def, Option.bind_eq_bind, Option.bind_eq_some_iff] at e
    obtain ⟨d, h1, es, h2, h3⟩ := e
    injection h3 with h3; subst h3
    exact ⟨v, vs, rfl, ih v d h1, D.ofVs_rel ih vs es h2⟩

theorem D.ofV_rel {S : Stab} : ∀ (n : Nat) (v : Value) (d : D), D.ofV n v = some d → D.rel S d v
  | 0, _, _, e => by simp [D.ofV] at e
  | n + 1, v, d, e => by
    have ih := D.ofV_rel (S := S) n
    unfold D.ofV at e
    split at e
    · injection e with e; subst e; rfl
    · injection e with e; subst e; rfl
    · injection e with e; subst e; simp [D.rel]
    · injection e with e; subst e; rfl
    · injection e with e; subst e; rfl
    · injection e with e; subst e; rfl
    · injection e with e; subst e; rfl
    · injection e with e; subst e; rfl
    · rename_i cs
      simp only [Option.map_eq_some_iff] at e
      obtain ⟨ds, h1, rfl⟩ := e
      exact ⟨cs.toList, by simp, D.ofVs_rel ih _ _ h1⟩
    · rename_i cs
      simp only [Option.map_eq_some_iff] at e
      obtain ⟨ds, h1, rfl⟩ := e
      exact ⟨cs.toList, by simp, D.ofVs_rel ih _ _ h1⟩
    · rename_i f a b
      split at e
      · rename_i a' b' h1 h2
        injection e with e; subst e
        exact ⟨a.toList, b.toList, by simp, D.ofVs_rel ih _ _ h1, D.ofVs_rel ih _ _ h2⟩
      · cases e
    · rename_i t x
      simp only [Option.map_eq_some_iff] at e
      obtain ⟨y, h1, rfl⟩ := e
      exact ⟨x, rfl, ih x y h1⟩
    · cases e

/-- Of each cell of a type: is it a slice, and of elements of how many cells? -/
def leavesT (P : Program) : Nat → TypeId → List (Option Nat)
  | 0, _ => []
  | d + 1, t => match P.underlying t with
    | some (.slice el) => [szT P el]
    | some (.struct fs) => (fs.toList.map fun f => leavesT P d f.type).flatten
    | some (.array k el) => (List.replicate k (leavesT P d el)).flatten
    | _ => [none]

/-- A slice that is nil, as a list of nothing. -/
def D.wid (sz : Option Nat) (d : D) : D := match sz, d with
  | some n, .nils => .lst n 0 [] true
  | _, d => d

def D.wids : List (Option Nat) → List D → List D
  | l :: ls, d :: ds => d.wid l :: D.wids ls ds
  | _, ds => ds

def D.widT (ls : List (Option Nat)) (d : D) : D := match d with
  | .agg cs => .agg (D.wids ls cs)
  | d => match ls with
    | [l] => d.wid l
    | _ => d

theorem D.wid_rel {S : Stab} {sz : Option Nat} {d : D} {v : Value} (r : D.rel S d v) : D.rel S (d.wid sz) v := by
  unfold D.wid
  split
  · exact lst_zero (show v = .slice none 0 0 from r) rfl (by simp)
  · exact r

theorem D.wids_rel {S : Stab} : ∀ (ls : List (Option Nat)) (ds : List D) (vs : List Value), D.rels S ds vs → D.rels S (D.wids ls ds) vs
  | _ :: ls, _ :: ds, _, ⟨v, ws, e, r, r'⟩ => ⟨v, ws, e, D.wid_rel r, D.wids_rel ls ds ws r'⟩
  | [], _, _, r => by simpa [D.wids] using r
  | _ :: _, [], _, r => by simpa [D.wids] using r

theorem D.widT_rel {S : Stab} {ls : List (Option Nat)} {d : D} {v : Value} (r : D.rel S d v) : D.rel S (d.widT ls) v := by
  unfold D.widT
  split
  · obtain ⟨vs, e, r⟩ := r
    exact ⟨vs, e, D.wids_rel ls _ vs r⟩
  · split
    · exact D.wid_rel r
    · exact r

def zeroT (P : Program) (t : TypeId) : Option D := (P.info? t).bind fun i => i.zero.bind fun z => (D.ofV 4 z).map (D.widT (leavesT P 6 t))

theorem run_zeroValue {P : Program} {t : TypeId} {d : D} (h : zeroT P t = some d) (S : Stab) (w : World) : ∃ z, (zeroValue t).run P w = .ok z w ∧ D.rel S d z ∧ (∀ i, P.info? t = some i → i.zero = some z) := by
  unfold zeroT at h
  cases hi : P.info? t with
  | none => simp [hi] at h
  | some i =>
    simp only [hi, Option.bind_some] at h
    cases hz : i.zero with
    | none => simp [hz] at h
    | some z =>
      simp only [hz, Option.bind_some] at h
      obtain ⟨d', hd', rfl⟩ := Option.map_eq_some_iff.1 h
      refine ⟨z, by simp [zeroValue, typeInfo, hi, hz], D.widT_rel (D.ofV_rel 4 z d' hd'), fun i' e => by injection e with e; subst e; exact hz⟩

/-- The cells of plain data. -/
def D.cellsOf : D → Option (List D)
  | .agg cs => if cs.all cellD then some cs else none
  | x => if cellD x then some [x] else none

theorem D.cellsOf_rel {S : Stab} {x : D} {cs : List D} {v : Value} (e : x.cellsOf = some cs) (r : D.rel S x v) :
    ∃ vs : List Value, v.cells = vs.toArray ∧ D.rels S cs vs ∧ ∀ u ∈ vs, cellVal u := by
  have h2 : (V.d x).cellsOf = some (cs.map V.d) := by
    cases x <;> simp [D.cellsOf, V.cellsOf, cellV, cellD] at e ⊢ <;> first | (subst e; rfl) | (obtain ⟨h1, h2⟩ := e; subst h2; exact ⟨h1, rfl⟩)
  obtain ⟨vs, h3, h4, h5⟩ := Go.Ev.cellsOf_rel (μ := fun _ => default) (h := []) h2 (r : V.rel _ S _ (.d x) v)
  exact ⟨vs, h3, V.rels_d.1 h4, h5⟩

section
variable {μ : Mu} {S : Stab} {h : List Blk} {w : World}

theorem ptr_new {μ : Mu} {S : Stab} {h : List Blk} {cs : List V} {b : Nat} : V.rel (μ.upd h.length ⟨b, 0⟩) S (h ++ [.cells cs]) (.ptr h.length 0) (.pointer (some ⟨b, 0, none⟩)) :=
  ⟨by simp, fun x e => by simp at e; subst e; rfl, by rw [Mu.upd_same]⟩

theorem ok_alloc {P : Program} (i : Inv μ S h w) {t : TypeId} {z : D} {cs : List D} (hz : zeroT P t = some z) (hc : z.cellsOf = some cs) :
    ∃ x μ' w', (Instr.alloc t true (.tuple #[])).run P w = .ok x w' ∧ Tr μ S h w μ' S (h ++ [.cells (cs.map .d)]) w' ∧ V.rel μ' S (h ++ [.cells (cs.map .d)]) (.ptr h.length 0) x := by
  obtain ⟨zv, h1, h2, _⟩ := run_zeroValue hz S w
  obtain ⟨vs, e1, r1, c1⟩ := D.cellsOf_rel hc h2
  have t := tr_alloc i (cs.map V.d) vs t (V.rels_d.2 r1) c1
  refine ⟨_, _, _, ?_, t, ptr_new⟩
  simp only [Instr.alloc, Sem.run_bind, h1, Result.andThen_ok, newVar, newRow, run_newObj, Sem.run_pure, e1]
  rfl

theorem ok_make {P : Program} (i : Inv μ S h w) {t : TypeId} {z : D} {cs : List D} {k : Nat} (hk : h[k]? = some .ghost) (hz : zeroT P t = some z) (hc : z.cellsOf = some cs) :
    ∃ x μ' w', (Instr.alloc t true (.tuple #[])).run P w = .ok x w' ∧ Tr μ S h w μ' S (h.set k (.cells (cs.map .d))) w' ∧ V.rel μ' S (h.set k (.cells (cs.map .d))) (.ptr k 0) x := by
  obtain ⟨zv, h1, h2, _⟩ := run_zeroValue hz S w
  obtain ⟨vs, e1, r1, c1⟩ := D.cellsOf_rel hc h2
  have t := tr_make (el := t) i hk (V.rels_d.2 r1) c1
  have hlt := lt_of_get hk
  refine ⟨_, _, _, ?_, t, by simpa using hlt, fun x e => ?_, by rw [Mu.upd_same]⟩
  · simp only [Instr.alloc, Sem.run_bind, h1, Result.andThen_ok, newVar, newRow, run_newObj, Sem.run_pure, e1]
    rfl
  · rw [List.getElem?_set_self hlt] at e; injection e with e; subst e; rfl

theorem ok_box {P : Program} (i : Inv μ S h w) {t : TypeId} {x : V} {v : Value} {cs : List V} (hc : x.cellsOf = some cs) (r : V.rel μ S h x v) :
    ∃ y μ' w', (Instr.box t v).run P w = .ok y w' ∧ Tr μ S h w μ' S (h ++ [.cells cs]) w' ∧ V.rel μ' S (h ++ [.cells cs]) (.ptr h.length 0) y := by
  obtain ⟨vs, e1, r1, c1⟩ := cellsOf_rel hc r
  refine ⟨_, _, _, ?_, tr_alloc i cs vs t r1 c1, ptr_new⟩
  simp only [Instr.box, Sem.run_bind, newVar, newRow, run_newObj, Result.andThen_ok, Sem.run_pure, e1]
  rfl

theorem zip_splice : ∀ (xs : List V) (vs : List Value) (cs : List V) (us : List Value) (off k : Nat), V.rels μ S h xs vs → V.rels μ S h cs us →
    ∃ us', (vs.zipIdx k).foldl (fun (acc : Array Value) (p : Value × Nat) => acc.setIfInBounds (off + p.2) p.1) us.toArray = us'.toArray ∧ V.rels μ S h (splice cs (off + k) xs) us'
  | [], _, cs, us, off, k, r, r' => by rw [show _ = [] from r]; exact ⟨us, by simp, r'⟩
  | x :: xs, _, cs, us, off, k, ⟨v, ws, e, r0, r⟩, r' => by
    subst e
    obtain ⟨us', h1, h2⟩ := zip_splice xs ws (cs.set (off + k) x) (us.set (off + k) v) off (k + 1) r (V.rels_set _ _ _ r' r0)
    refine ⟨us', ?_, h2⟩
    simp only [List.zipIdx_cons, List.foldl_cons, List.setIfInBounds_toArray]
    exact h1

/-- Filling in the parts of a literal. -/
theorem ok_fill (place : Nat → Option (Nat × Nat)) : ∀ (ps : List (Nat × Value)) (qs : List (Nat × Nat × V)) (cs : List V) (us : List Value) (out : List V),
    All2 (fun (p : Nat × Value) (q : Nat × Nat × V) => place p.1 = some (q.1, q.2.1) ∧ V.rel μ S h q.2.2 p.2) ps qs → V.rels μ S h cs us → fillV cs qs = some out →
    ∃ us' : List Value, Instr.fill place us.toArray ps = some us'.toArray ∧ V.rels μ S h out us'
  | [], _, cs, us, out, .nil, r, e => by injection e with e; subst e; exact ⟨us, rfl, r⟩
  | (j, v) :: ps, (off, size, x) :: qs, cs, us, out, .cons ⟨h1, h2⟩ hr, r, e => by
    simp only [fillV] at e
    split at e
    · rename_i c hc
      split at e
      · rename_i hl
        obtain ⟨vs, e1, r1, _⟩ := cellsOf_rel hc h2
        have hlen := V.rels_length r1
        have hlen2 := V.rels_length r
        obtain ⟨us', h3, h4⟩ := zip_splice c vs cs us off 0 r1 r
        obtain ⟨us'', h5, h6⟩ := ok_fill place ps qs _ us' out hr h4 e
        refine ⟨us'', ?_, h6⟩
        simp only at h1
        simp only [Instr.fill, h1]
        rw [if_neg (by rw [e1]; simp; omega)]
        have : (v.cells.zipIdx.foldl (fun cs (x : Value × Nat) => cs.setIfInBounds (off + x.2) x.1) us.toArray) = us'.toArray := by
          rw [e1, ← h3]; simp
        rw [this]; exact h5
      · cases e
    · cases e

theorem rels_zero {P : Program} {t : TypeId} {z : D} {cs : List D} (hz : zeroT P t = some z) (hc : z = .agg cs) (w : World) :
    ∃ vs : List Value, (zeroValue t).run P w = .ok (.agg vs.toArray) w ∧ V.rels μ S h (cs.map .d) vs := by
  obtain ⟨zv, h1, h2, _⟩ := run_zeroValue hz S w
  subst hc
  obtain ⟨vs, e, r⟩ := h2
  exact ⟨vs, by rw [h1, e], V.rels_d.2 r⟩

def placesS (P : Program) (fs : Array Field) : Option (List (Nat × Nat)) := fs.toList.mapM fun f => (P.info? f.type).map fun i => (f.offset, i.size)

theorem ok_build_struct {P : Program} {t : TypeId} {fs : Array Field} {places : List (Nat × Nat)} {zero : List D} {ps : List (Nat × Value)} {qs : List (Nat × Nat × V)} {out : List V}
    (hu : P.underlying t = some (.struct fs)) (hz : zeroT P t = some (.agg zero)) (hp : placesS P fs = some places)
    (hq : All2 (fun (p : Nat × Value) (q : Nat × Nat × V) => places[p.1]? = some (q.1, q.2.1) ∧ V.rel μ S h q.2.2 p.2) ps qs) (e : fillV (zero.map .d) qs = some out) :
    ∃ y, (Instr.build t ps.toArray).run P w = .ok y w ∧ V.rel μ S h (mkAgg out) y := by
  obtain ⟨vs, h1, r1⟩ := rels_zero (μ := μ) (S := S) (h := h) hz rfl w
  obtain ⟨us, h2, r2⟩ := ok_fill (places[·]?) ps qs _ vs out hq r1 e
  refine ⟨.agg us.toArray, ?_, mkAgg_rel r2⟩
  have h3 : Instr.fill (fun x => places.toArray[x]?) vs.toArray ps = some us.toArray := by simpa using h2
  simp [Instr.build, h1, run_underlying hu, Value.cells, Array.mapM_eq_mapM_toList, Go.run_places w _ _ hp, h2]

theorem ok_build_array {P : Program} {t el : TypeId} {len sz : Nat} {zero : List D} {ps : List (Nat × Value)} {qs : List (Nat × Nat × V)} {out : List V}
    (hu : P.underlying t = some (.array len el)) (hz : zeroT P t = some (.agg zero)) (hs : szT P el = some sz)
    (hq : All2 (fun (p : Nat × Value) (q : Nat × Nat × V) => (q.1 = p.1 * sz ∧ q.2.1 = sz) ∧ V.rel μ S h q.2.2 p.2) ps qs) (e : fillV (zero.map .d) qs = some out) :
    ∃ y, (Instr.build t ps.toArray).run P w = .ok y w ∧ V.rel μ S h (mkAgg out) y := by
  obtain ⟨vs, h1, r1⟩ := rels_zero (μ := μ) (S := S) (h := h) hz rfl w
  have hq' : All2 (fun (p : Nat × Value) (q : Nat × Nat × V) => (fun i => some (i * sz, sz)) p.1 = some (q.1, q.2.1) ∧ V.rel μ S h q.2.2 p.2) ps qs := by
    clear e h1
    induction hq with
    | nil => exact .nil
    | cons a _ ih => exact .cons ⟨by rw [a.1.1, a.1.2], a.2⟩ ih
  obtain ⟨us, h2, r2⟩ := ok_fill (fun i => some (i * sz, sz)) ps qs _ vs out hq' r1 e
  refine ⟨.agg us.toArray, ?_, mkAgg_rel r2⟩
  simp [Instr.build, h1, run_underlying hu, Value.cells, run_sizeOf hs, h2]

/-- A row of plain data that nothing else names. -/
theorem tr_lit (i : Inv μ S h w) (ds : List D) (vals rest : List Value) (el : TypeId) (fr : Nat × Nat) (hr : D.rels S ds vals) (hv : ∀ v ∈ vals, cellVal v) :
    ∃ S', Tr μ S h w μ S' h (w.alloc (.cells (vals ++ rest).toArray el fr)) ∧ D.relAt S' ds w.heap.size 0 := by
  let S' : Stab := fun b o => if b = w.heap.size then vals[o]? else S b o
  have hnone : ∀ o, S w.heap.size o = none := fun o => by
    cases q : S w.heap.size o with
    | none => rfl
    | some v => have := i.stlt q; omega
  have hle : S.le S' := by
    intro b o v e
    by_cases q : b = w.heap.size
    · subst q; rw [hnone] at e; cases e
    · simp [S', q, e]
  have hS : ∀ o, S' w.heap.size o = vals[o]? := fun o => by simp [S']
  have hS2 : ∀ b o, b ≠ w.heap.size → S' b o = S b o := fun b o q => by simp [S', q]
  have hK : Kp μ S h μ S' h := ⟨hle, Nat.le_refl _, fun _ _ _ => rfl, fun _ _ n e => ⟨n, e, Nat.le_refl _, fun _ => rfl⟩, fun _ _ n _ e => ⟨n, e⟩, fun _ _ e => e⟩
  refine ⟨S', { inv := { st := ?_, bl := ?_, inj := i.inj, sepc := ?_, sept := ?_ }, kp := hK, fresh := ?_, frame := fun b hb _ => heap_alloc_old _ _ _ hb, own := fun _ q => .inr q, size := by simp, os := rfl, tape := rfl, output := rfl }, ?_⟩
  · intro b o v e
    by_cases q : b = w.heap.size
    · subst q; rw [hS] at e
      refine ⟨?_, hv v (List.mem_of_getElem? e)⟩
      rw [cell_of_row _ _ _ _ _ _ (heap_alloc_new _ _)]
      simp only [List.getElem?_toArray]
      rw [List.getElem?_append_left (lt_of_get e)]; exact e
    · rw [hS2 _ _ q] at e
      obtain ⟨h1, h2⟩ := i.st b o v e
      exact ⟨by rw [World.cell?_alloc_lt (h := i.stlt e)]; exact h1, h2⟩
  · intro j y e
    by_cases hl : y.live
    · exact Blk.rel_mono hK (heap_alloc_old _ _ _ (i.lt e hl)) y (i.bl j y e)
    · cases y with
      | absent => trivial
      | ghost => trivial
      | cells _ => exact absurd trivial hl
      | tip _ _ => exact fun h0 => absurd h0 hl
  · intro j c e o
    rw [hS2 _ _ (by have := i.lt e trivial; omega)]; exact i.sepc j c e o
  · intro j s a e hp o ho
    rw [hS2 _ _ (by have := i.lt e hp; omega)]; exact i.sept j s a e hp o ho
  · intro b o v e e0
    by_cases q : b = w.heap.size
    · exact .inl (by omega)
    · rw [hS2 _ _ q, e0] at e; cases e
  · exact D.relAt_of _ _ (D.rels_mono hle _ _ hr) (fun j v e => by rw [hS]; simpa using e)

/-- The cells of so many zero values. -/
theorem zeros_eq {P : Program} {t : TypeId} {z : D} {cs : List D} (hz : zeroT P t = some z) (hc : z.cellsOf = some cs) (n : Nat) (w : World) :
    ∃ zv vs : List Value, (∃ v, (zeroValue t).run P w = .ok v w ∧ v.cells = zv.toArray) ∧ zv.length = cs.length ∧ (Array.range (n * cs.length)).map (fun j => zv.toArray[j % zv.toArray.size]!) = vs.toArray ∧
      D.rels S (List.replicate n cs).flatten vs ∧ ∀ u ∈ vs, cellVal u := by
  obtain ⟨v, h1, h2, _⟩ := run_zeroValue hz S w
  obtain ⟨zv, e1, r1, c1⟩ := D.cellsOf_rel hc h2
  have hlen := D.rels_length r1
  refine ⟨zv, (List.replicate n zv).flatten, ⟨v, h1, e1⟩, hlen.symm, ?_, ?_, ?_⟩
  · apply Array.ext'
    simp only [Array.toList_map, Array.toList_range, List.size_toArray]
    rw [hlen]
    clear h1 h2 e1 r1 c1 hlen
    apply List.ext_getElem?
    intro j
    induction n generalizing j with
    | zero => simp
    | succ n ih =>
      rw [List.replicate_succ, List.flatten_cons]
      by_cases hj : j < zv.length
      · rw [List.getElem?_append_left hj]
        have : j < (n + 1) * zv.length := by rw [Nat.add_mul]; omega
        simp [List.getElem?_range this, Nat.mod_eq_of_lt hj, hj]
      · rw [List.getElem?_append_right (by omega), ← ih]
        by_cases hk : j < (n + 1) * zv.length
        · have hk2 : j - zv.length < n * zv.length := by rw [Nat.add_mul] at hk; omega
          have hm : (j - zv.length) % zv.length = j % zv.length := by
            conv => rhs; rw [show j = (j - zv.length) + zv.length by omega]
            rw [Nat.add_mod_right]
          simp only [List.getElem?_map, List.getElem?_range hk, List.getElem?_range hk2, Option.map_some, hm]
        · have hk2 : ¬ j - zv.length < n * zv.length := by rw [Nat.add_mul] at hk; omega
          rw [List.getElem?_eq_none (by simp; omega), List.getElem?_eq_none (by simp; omega)]
  · clear h1 h2 e1 hlen
    induction n with
    | zero => rfl
    | succ n ih =>
      rw [List.replicate_succ, List.flatten_cons, List.replicate_succ, List.flatten_cons]
      exact D.rels_append r1 ih
  · intro u hu
    simp only [List.mem_flatten, List.mem_replicate] at hu
    obtain ⟨l, ⟨_, rfl⟩, hu⟩ := hu
    exact c1 u hu

end
end Go.Ev
