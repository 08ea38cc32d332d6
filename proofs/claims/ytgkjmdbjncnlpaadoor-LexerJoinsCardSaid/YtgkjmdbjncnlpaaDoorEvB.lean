/- The elementary steps of memory: a block made, a cell written, a block made firm, a draw. -/
import Derived.Test.YtgkjmdbjncnlpaaDoorEvA
import Derived.Laws.Rows
import Derived.Deep.Draws
namespace Go.Ev

def Mu.upd (μ : Mu) (k : Nat) (p : Pl) : Mu := fun i => if i = k then p else μ i

theorem Mu.upd_same (μ : Mu) (k : Nat) (p : Pl) : μ.upd k p k = p := by simp [Mu.upd]
theorem Mu.upd_ne (μ : Mu) {k i : Nat} (p : Pl) (h : i ≠ k) : μ.upd k p i = μ i := by simp [Mu.upd, h]

theorem Blk.rel_mono {μ μ' : Mu} {S S' : Stab} {h h' : List Blk} {w w' : World} {p : Pl} (k : Kp μ S h μ' S' h') (hw : w'.heap[p.blk]? = w.heap[p.blk]?) :
    ∀ (x : Blk), x.rel μ S h w p → x.rel μ' S' h' w' p
  | .cells cs, ⟨vals, el, e, r, c⟩ => ⟨vals, el, by rw [hw]; exact e, V.rels_mono k cs vals r, c⟩
  | .tip _ _, q => fun hp => let ⟨vals, el, e, r⟩ := q hp; ⟨vals, el, by rw [hw]; exact e, r⟩
  | .absent, _ => trivial
  | .ghost, _ => trivial

theorem Inv.lt {μ : Mu} {S : Stab} {h : List Blk} {w : World} (i : Inv μ S h w) {k : Nat} {x : Blk} (e : h[k]? = some x) (l : x.live) : (μ k).blk < w.heap.size := by
  have hb := i.bl k x e
  have hlt : ∀ {o : Obj}, w.heap[(μ k).blk]? = some o → (μ k).blk < w.heap.size := by
    intro o ho
    rcases Nat.lt_or_ge (μ k).blk w.heap.size with g | g
    · exact g
    · simp [Array.getElem?_eq_none g] at ho
  cases x with
  | cells cs => obtain ⟨vals, el, e1, _⟩ := hb; exact hlt e1
  | tip a b => obtain ⟨vals, el, e1, _⟩ := hb l; exact hlt e1
  | absent => exact l.elim
  | ghost => exact l.elim

theorem Inv.stlt {μ : Mu} {S : Stab} {h : List Blk} {w : World} (i : Inv μ S h w) {b o : Nat} {v : Value} (e : S b o = some v) : b < w.heap.size :=
  block_lt_of_cell (i.st b o v e).1

theorem kp_append (μ μ' : Mu) (S : Stab) (h l : List Blk) (e : ∀ i, i < h.length → μ' i = μ i) : Kp μ S h μ' S (h ++ l) where
  sub := Stab.le_refl S
  len := by simp
  keepc := fun i hi _ => e i hi
  keept := fun i sz n ht => by
    have hi : i < h.length := by
      rcases Nat.lt_or_ge i h.length with g | g
      · exact g
      · simp [List.getElem?_eq_none g] at ht
    exact ⟨n, by rw [List.getElem?_append_left hi]; exact ht, Nat.le_refl _, fun _ => e i hi⟩
  notip := fun i sz n hi ht => ⟨n, by rw [List.getElem?_append_left hi] at ht; exact ht⟩
  noghost := fun i hi ht => by rw [List.getElem?_append_left hi] at ht; exact ht

theorem lt_of_get {α : Type} {l : List α} {i : Nat} {x : α} (h : l[i]? = some x) : i < l.length := by
  rcases Nat.lt_or_ge i l.length with g | g
  · exact g
  · simp [List.getElem?_eq_none g] at h

/-- A new block, of which the abstract memory takes note as 'x'. -/
theorem tr_new {μ : Mu} {S : Stab} {h : List Blk} {w w' : World} (i : Inv μ S h w) (x : Blk) (o : Obj) (cap : Nat) (hw : w' = w.alloc o)
    (hx : x.rel (μ.upd h.length ⟨w.heap.size, cap⟩) S (h ++ [x]) w' ⟨w.heap.size, cap⟩) :
    Tr μ S h w (μ.upd h.length ⟨w.heap.size, cap⟩) S (h ++ [x]) w' := by
  subst hw
  have hk : Kp μ S h (μ.upd h.length ⟨w.heap.size, cap⟩) S (h ++ [x]) := kp_append _ _ _ _ _ (fun k hk => Mu.upd_ne _ _ (by omega))
  have hget : ∀ (k : Nat) (y : Blk), (h ++ [x])[k]? = some y → (k < h.length ∧ h[k]? = some y) ∨ (k = h.length ∧ y = x) := by
    intro k y e
    rcases Nat.lt_trichotomy k h.length with g | g | g
    · rw [List.getElem?_append_left g] at e; exact .inl ⟨g, e⟩
    · subst g; simp at e; exact .inr ⟨rfl, e.symm⟩
    · rw [List.getElem?_append_right (by omega), List.getElem?_eq_none (by simp; omega)] at e; cases e
  refine { inv := ?_, kp := hk, fresh := fun _ _ _ a b => by simp [a] at b, frame := fun b hb _ => heap_alloc_old _ _ _ hb, own := ?_, size := by simp, os := rfl, tape := rfl, output := rfl }
  · refine { st := ?_, bl := ?_, inj := ?_, sepc := ?_, sept := ?_ }
    · intro b o' v e
      obtain ⟨h1, h2⟩ := i.st b o' v e
      exact ⟨by rw [World.cell?_alloc_lt (h := i.stlt e)]; exact h1, h2⟩
    · intro k y e
      rcases hget k y e with ⟨g, e'⟩ | ⟨rfl, rfl⟩
      · rw [Mu.upd_ne _ _ (by omega)]
        by_cases hl : y.live
        · exact Blk.rel_mono hk (heap_alloc_old _ _ _ (i.lt e' hl)) y (i.bl k y e')
        · cases y with
          | absent => trivial
          | ghost => trivial
          | cells _ => exact absurd trivial hl
          | tip _ _ => exact fun h0 => absurd h0 hl
      · rw [Mu.upd_same]; exact hx
    · intro k l y z ek el hy hz e
      rcases hget k y ek with ⟨g, e1⟩ | ⟨rfl, rfl⟩ <;> rcases hget l z el with ⟨g', e2⟩ | ⟨rfl, rfl⟩
      · rw [Mu.upd_ne _ _ (by omega), Mu.upd_ne _ _ (by omega)] at e; exact i.inj k l y z e1 e2 hy hz e
      · rw [Mu.upd_ne _ _ (by omega), Mu.upd_same] at e; have := i.lt e1 hy; simp at e; omega
      · rw [Mu.upd_same, Mu.upd_ne _ _ (by omega)] at e; have := i.lt e2 hz; simp at e; omega
      · rfl
    · intro k cs e o'
      rcases hget k _ e with ⟨g, e1⟩ | ⟨rfl, _⟩
      · rw [Mu.upd_ne _ _ (by omega)]; exact i.sepc k cs e1 o'
      · rw [Mu.upd_same]
        cases hs : S w.heap.size o' with
        | none => rfl
        | some v => have := i.stlt hs; omega
    · intro k sz n e hp o' ho
      rcases hget k _ e with ⟨g, e1⟩ | ⟨rfl, _⟩
      · rw [Mu.upd_ne _ _ (by omega)]; exact i.sept k sz n e1 hp o' ho
      · rw [Mu.upd_same]
        cases hs : S w.heap.size o' with
        | none => rfl
        | some v => have := i.stlt hs; omega
  · rintro b ⟨k, y, e, hl, rfl⟩
    rcases hget k y e with ⟨g, e1⟩ | ⟨rfl, rfl⟩
    · rw [Mu.upd_ne _ _ (by omega)]; exact .inr ⟨k, y, e1, hl, rfl⟩
    · rw [Mu.upd_same]; exact .inl (Nat.le_refl _)

/-- New cells. -/
theorem tr_alloc {μ : Mu} {S : Stab} {h : List Blk} {w : World} (i : Inv μ S h w) (cs : List V) (vals : List Value) (el : TypeId)
    (hr : V.rels μ S h cs vals) (hv : ∀ v ∈ vals, cellVal v) :
    Tr μ S h w (μ.upd h.length ⟨w.heap.size, 0⟩) S (h ++ [.cells cs]) (w.alloc (.cells vals.toArray el)) :=
  tr_new i (.cells cs) _ 0 rfl ⟨vals, el, heap_alloc_new _ _, V.rels_mono (kp_append _ _ _ _ _ (fun k hk => Mu.upd_ne _ _ (by omega))) cs vals hr, hv⟩

/-- A draw. -/
theorem tr_drew {μ : Mu} {S : Stab} {h : List Blk} {w : World} (i : Inv μ S h w) : Tr μ S h w μ S h w.drew where
  inv := ⟨i.st, fun k x e => Blk.rel_mono (w := w) (Kp.refl _ _ _) (by rfl) x (i.bl k x e), i.inj, i.sepc, i.sept⟩
  kp := Kp.refl _ _ _
  fresh := fun _ _ _ a b => by simp [a] at b
  frame := fun _ _ _ => rfl
  own := fun _ h => .inr h
  size := Nat.le_refl _
  os := rfl
  tape := rfl
  output := rfl

end Go.Ev
