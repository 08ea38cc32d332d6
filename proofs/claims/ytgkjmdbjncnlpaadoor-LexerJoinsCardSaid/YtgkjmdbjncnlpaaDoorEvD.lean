/- Lists that grow: in their own room, or into a new row. -/
import Derived.Test.YtgkjmdbjncnlpaaDoorEvC
namespace Go.Ev
set_option linter.unusedVariables false

/-- A cell written in the room behind a growing list. -/
theorem tr_slack {μ : Mu} {S : Stab} {h : List Blk} {w : World} (i : Inv μ S h w) {k sz n o : Nat} {v : Value}
    (hk : h[k]? = some (.tip sz n)) (hp : 0 < n) (ho : n * sz ≤ o) :
    Tr μ S h w μ S h (w.setCell ⟨(μ k).blk, o, none⟩ v) := by
  have hother : ∀ b, b ≠ (μ k).blk → (w.setCell ⟨(μ k).blk, o, none⟩ v).heap[b]? = w.heap[b]? := fun b hb' => heap_setCell_other _ _ _ _ hb'
  obtain ⟨vals, el, hb, hcap, hn⟩ := i.bl k _ hk hp
  refine { inv := { st := ?_, bl := ?_, inj := i.inj, sepc := i.sepc, sept := i.sept }, kp := Kp.refl _ _ _, fresh := fun _ _ _ a b => by simp [a] at b, frame := ?_, own := fun _ q => .inr q, size := by simp, os := rfl, tape := rfl, output := rfl }
  · intro b o' u e
    obtain ⟨h1, h2⟩ := i.st b o' u e
    refine ⟨?_, h2⟩
    rw [World.cell?_setCell_other]
    · exact h1
    · intro q
      injection q with q1 q2
      subst q1; subst q2
      rw [i.sept k sz n hk hp _ ho] at e; cases e
  · intro j y e
    by_cases hj : j = k
    · subst hj
      rw [hk] at e; injection e with e; subst e
      exact fun _ => ⟨vals.setIfInBounds o v, el, heap_setCell_same _ _ _ _ _ _ hb, by simpa using hcap, hn⟩
    · by_cases hl : y.live
      · exact Blk.rel_mono (Kp.refl _ _ _) (hother _ (fun q => hj (i.inj j k y _ e hk hl hp q))) y (i.bl j y e)
      · cases y with
        | absent => trivial
        | ghost => trivial
        | cells _ => exact absurd trivial hl
        | tip _ _ => exact fun h0 => absurd h0 hl
  · intro b _ ho
    exact hother b (fun q => ho ⟨k, _, hk, hp, q.symm⟩)

/-- What was written in the room becomes part of the list. -/
theorem tr_ext {μ : Mu} {S : Stab} {h : List Blk} {w : World} (i : Inv μ S h w) {k sz n m : Nat} {ds : List D} {vals : List Value}
    (hk : h[k]? = some (.tip sz n)) (hp : 0 < n) (hr : D.rels S ds vals) (hl : ds.length = m * sz) (hcap : n + m ≤ (μ k).cap)
    (hw : ∀ (j : Nat) v, vals[j]? = some v → w.cell? ⟨(μ k).blk, n * sz + j, none⟩ = some v ∧ cellVal v) :
    ∃ S', Tr μ S h w μ S' (h.set k (.tip sz (n + m))) w ∧ D.relAt S' ds (μ k).blk (n * sz) := by
  by_cases hm : m = 0
  · subst hm
    have hds : ds = [] := by cases ds with | nil => rfl | cons _ _ => simp at hl
    subst hds
    have : h.set k (.tip sz (n + 0)) = h := by
      apply List.ext_getElem?; intro j
      rw [List.getElem?_set]
      split
      · rename_i q; subst q
        obtain ⟨hlt, he⟩ := List.getElem?_eq_some_iff.1 hk
        rw [if_pos hlt, hk]; rfl
      · rfl
    rw [this]
    exact ⟨S, Tr.refl i, trivial⟩
  have hlen := D.rels_length hr
  obtain ⟨cells, el, hb, hcp, hn⟩ := i.bl k _ hk hp
  let S' : Stab := fun b o => if b = (μ k).blk ∧ n * sz ≤ o ∧ o < n * sz + vals.length then vals[o - n * sz]? else S b o
  have hle : S.le S' := by
    intro b o v e
    by_cases q : b = (μ k).blk ∧ n * sz ≤ o ∧ o < n * sz + vals.length
    · obtain ⟨rfl, q1, q2⟩ := q; rw [i.sept k sz n hk hp o q1] at e; cases e
    · simp only [S', if_neg q]; exact e
  have hS1 : ∀ j, j < vals.length → S' (μ k).blk (n * sz + j) = vals[j]? := fun j hj => by
    show (if (μ k).blk = (μ k).blk ∧ n * sz ≤ n * sz + j ∧ n * sz + j < n * sz + vals.length then _ else _) = _; rw [if_pos ⟨rfl, by omega, by omega⟩]; congr 1; omega
  have hS2 : ∀ b o, ¬ (b = (μ k).blk ∧ n * sz ≤ o ∧ o < n * sz + vals.length) → S' b o = S b o := fun b o q => by simp only [S', if_neg q]
  have hK : Kp μ S h μ S' (h.set k (.tip sz (n + m))) := kp_set hle hk (fun _ _ _ => rfl) (fun q => by cases q)
    (fun a b q => by injection q with q1 q2; subst q1; subst q2; exact ⟨n + m, rfl, by omega, fun _ => rfl⟩)
  have live : ∀ {a : Nat} {y : Blk}, (h.set k (.tip sz (n + m)))[a]? = some y → y.live → ∃ y', h[a]? = some y' ∧ y'.live := by
    intro a y ea hy
    rcases get_set ea with ⟨rfl, _, _⟩ | ⟨_, e1⟩
    · exact ⟨_, hk, hp⟩
    · exact ⟨y, e1, hy⟩
  refine ⟨S', { inv := { st := ?_, bl := ?_, inj := ?_, sepc := ?_, sept := ?_ }, kp := hK, fresh := ?_, frame := fun _ _ _ => rfl, own := ?_, size := Nat.le_refl _, os := rfl, tape := rfl, output := rfl }, ?_⟩
  · intro b o v e
    by_cases q : b = (μ k).blk ∧ n * sz ≤ o ∧ o < n * sz + vals.length
    · obtain ⟨rfl, q1, q2⟩ := q
      have e' := hS1 (o - n * sz) (by omega)
      rw [show n * sz + (o - n * sz) = o by omega] at e'
      rw [e'] at e
      have := hw _ v e
      rw [show n * sz + (o - n * sz) = o by omega] at this
      exact this
    · rw [hS2 _ _ q] at e; exact i.st b o v e
  · intro j y e
    rcases get_set e with ⟨rfl, _, rfl⟩ | ⟨hj, e1⟩
    · exact fun _ => ⟨cells, el, hb, hcp, hcap⟩
    · exact Blk.rel_mono hK rfl y (i.bl j y e1)
  · intro a b y z ea eb hy hz q
    obtain ⟨y', e1, l1⟩ := live ea hy
    obtain ⟨z', e2, l2⟩ := live eb hz
    exact i.inj a b y' z' e1 e2 l1 l2 q
  · intro j c e o
    rcases get_set e with ⟨_, _, e1⟩ | ⟨hj, e1⟩
    · cases e1
    · rw [hS2 _ _ (fun q => hj (i.inj j k _ _ e1 hk trivial hp q.1))]; exact i.sepc j c e1 o
  · intro j s a e hp2 o ho
    rcases get_set e with ⟨rfl, _, e1⟩ | ⟨hj, e1⟩
    · injection e1 with e1 e2; subst e1; subst e2
      have hx : (n + m) * s = n * s + m * s := Nat.add_mul n m s
      rw [hS2 _ _ (fun q => by have := q.2.2; omega)]; exact i.sept j s n hk hp o (by omega)
    · rw [hS2 _ _ (fun q => hj (i.inj j k _ _ e1 hk hp2 hp q.1))]; exact i.sept j s a e1 hp2 o ho
  · intro b o v e e0
    by_cases q : b = (μ k).blk ∧ n * sz ≤ o ∧ o < n * sz + vals.length
    · exact .inr ⟨k, _, hk, hp, q.1.symm⟩
    · rw [hS2 _ _ q, e0] at e; cases e
  · rintro b ⟨j, y, e, hl, rfl⟩
    obtain ⟨y', e1, l1⟩ := live e hl
    exact .inr ⟨j, y', e1, l1, rfl⟩
  · exact D.relAt_of _ _ (D.rels_mono hle _ _ hr) (fun j v e => by rw [hS1 j (lt_of_get e)]; exact e)

/-- The list moves to a new row, with more behind it. -/
theorem tr_move {μ : Mu} {S : Stab} {h : List Blk} {w : World} (i : Inv μ S h w) {k sz n m cap : Nat} {ds : List D} {vals rest : List Value} {el : TypeId}
    (hk : h[k]? = some (.tip sz n)) (hm : 0 < m) (hr : D.rels S ds vals) (hv : ∀ v ∈ vals, cellVal v) (hl : ds.length = (n + m) * sz) (hc : n + m ≤ cap)
    (hs : (vals ++ rest).length = cap * sz) :
    ∃ S', Tr μ S h w (μ.upd k ⟨w.heap.size, cap⟩) S' (h.set k (.tip sz (n + m))) (w.alloc (.cells (vals ++ rest).toArray el)) ∧ D.relAt S' ds w.heap.size 0 := by
  have hlen := D.rels_length hr
  let S' : Stab := fun b o => if b = w.heap.size then vals[o]? else S b o
  have hnone : ∀ o, S w.heap.size o = none := fun o => by
    cases q : S w.heap.size o with
    | none => rfl
    | some v => have := i.stlt q; omega
  have hle : S.le S' := by
    intro b o v e
    by_cases q : b = w.heap.size
    · subst q; rw [hnone] at e; cases e
    · simp [S', q, e]
  have hS : ∀ o, S' w.heap.size o = vals[o]? := fun o => by simp [S']
  have hS2 : ∀ b o, b ≠ w.heap.size → S' b o = S b o := fun b o q => by simp [S', q]
  have hK : Kp μ S h (μ.upd k ⟨w.heap.size, cap⟩) S' (h.set k (.tip sz (n + m))) := kp_set hle hk (fun j _ q => Mu.upd_ne _ _ q) (fun q => by cases q)
    (fun a b q => by injection q with q1 q2; subst q1; subst q2; exact ⟨n + m, rfl, by omega, fun q => by omega⟩)
  refine ⟨S', { inv := { st := ?_, bl := ?_, inj := ?_, sepc := ?_, sept := ?_ }, kp := hK, fresh := ?_, frame := fun b hb _ => heap_alloc_old _ _ _ hb, own := ?_, size := by simp, os := rfl, tape := rfl, output := rfl }, ?_⟩
  · intro b o v e
    by_cases q : b = w.heap.size
    · subst q; rw [hS] at e
      refine ⟨?_, hv v (List.mem_of_getElem? e)⟩
      rw [cell_of_row _ _ _ _ _ _ (heap_alloc_new _ _)]
      simp only [List.getElem?_toArray]
      rw [List.getElem?_append_left (lt_of_get e)]; exact e
    · rw [hS2 _ _ q] at e
      obtain ⟨h1, h2⟩ := i.st b o v e
      exact ⟨by rw [World.cell?_alloc_lt (h := i.stlt e)]; exact h1, h2⟩
  · intro j y e
    rcases get_set e with ⟨rfl, _, rfl⟩ | ⟨hj, e1⟩
    · rw [Mu.upd_same]
      exact fun _ => ⟨(vals ++ rest).toArray, el, heap_alloc_new _ _, by simp only [List.size_toArray]; rw [hs]; exact Nat.le_refl _, hc⟩
    · rw [Mu.upd_ne _ _ hj]
      by_cases hl : y.live
      · exact Blk.rel_mono hK (heap_alloc_old _ _ _ (i.lt e1 hl)) y (i.bl j y e1)
      · cases y with
        | absent => trivial
        | ghost => trivial
        | cells _ => exact absurd trivial hl
        | tip _ _ => exact fun h0 => absurd h0 hl
  · intro a b y z ea eb hy hz q
    rcases get_set ea with ⟨rfl, _, _⟩ | ⟨ha, e1⟩ <;> rcases get_set eb with ⟨rfl, _, _⟩ | ⟨hb, e2⟩
    · rfl
    · rw [Mu.upd_same, Mu.upd_ne _ _ hb] at q; have := i.lt e2 hz; simp at q; omega
    · rw [Mu.upd_same, Mu.upd_ne _ _ ha] at q; have := i.lt e1 hy; simp at q; omega
    · rw [Mu.upd_ne _ _ ha, Mu.upd_ne _ _ hb] at q; exact i.inj a b y z e1 e2 hy hz q
  · intro j c e o
    rcases get_set e with ⟨_, _, e1⟩ | ⟨hj, e1⟩
    · cases e1
    · rw [Mu.upd_ne _ _ hj, hS2 _ _ (by have := i.lt e1 trivial; omega)]; exact i.sepc j c e1 o
  · intro j s a e hp o ho
    rcases get_set e with ⟨rfl, _, e1⟩ | ⟨hj, e1⟩
    · injection e1 with e1 e2; subst e1; subst e2
      rw [Mu.upd_same, hS, List.getElem?_eq_none (by omega)]
    · rw [Mu.upd_ne _ _ hj, hS2 _ _ (by have := i.lt e1 hp; omega)]; exact i.sept j s a e1 hp o ho
  · intro b o v e e0
    by_cases q : b = w.heap.size
    · exact .inl (by omega)
    · rw [hS2 _ _ q, e0] at e; cases e
  · rintro b ⟨j, y, e, hl, rfl⟩
    rcases get_set e with ⟨rfl, _, _⟩ | ⟨hj, e1⟩
    · rw [Mu.upd_same]; exact .inl (Nat.le_refl _)
    · rw [Mu.upd_ne _ _ hj]; exact .inr ⟨j, y, e1, hl, rfl⟩
  · exact D.relAt_of _ _ (D.rels_mono hle _ _ hr) (fun j v e => by rw [hS]; simpa using e)

/-- A list of nothing whose row is not made yet. -/
theorem tr_ghost {μ : Mu} {S : Stab} {h : List Blk} {w : World} (i : Inv μ S h w) (sz : Nat) : Tr μ S h w μ S (h ++ [.tip sz 0]) w := by
  have hk : Kp μ S h μ S (h ++ [.tip sz 0]) := kp_append _ _ _ _ _ (fun k hk => rfl)
  have hget : ∀ (k : Nat) (y : Blk), (h ++ [Blk.tip sz 0])[k]? = some y → h[k]? = some y ∨ y = .tip sz 0 := by
    intro k y e
    rcases Nat.lt_trichotomy k h.length with g | g | g
    · rw [List.getElem?_append_left g] at e; exact .inl e
    · subst g; simp at e; exact .inr e.symm
    · rw [List.getElem?_append_right (by omega), List.getElem?_eq_none (by simp; omega)] at e; cases e
  have dead : ¬ (Blk.tip sz 0).live := by simp [Blk.live]
  refine { inv := { st := i.st, bl := ?_, inj := ?_, sepc := ?_, sept := ?_ }, kp := hk, fresh := fun _ _ _ a b => by simp [a] at b, frame := fun _ _ _ => rfl, own := ?_, size := Nat.le_refl _, os := rfl, tape := rfl, output := rfl }
  · intro k y e
    rcases hget k y e with e' | rfl
    · exact Blk.rel_mono hk rfl y (i.bl k y e')
    · exact fun h0 => absurd h0 (by omega)
  · intro k l y z ek el hy hz e
    rcases hget k y ek with e1 | rfl
    · rcases hget l z el with e2 | rfl
      · exact i.inj k l y z e1 e2 hy hz e
      · exact absurd hz dead
    · exact absurd hy dead
  · intro k cs e o
    rcases hget k _ e with e1 | e1
    · exact i.sepc k cs e1 o
    · cases e1
  · intro k sz' n e hp o ho
    rcases hget k _ e with e1 | e1
    · exact i.sept k sz' n e1 hp o ho
    · injection e1 with _ e1; omega
  · rintro b ⟨k, y, e, hl, rfl⟩
    rcases hget k y e with e1 | rfl
    · exact .inr ⟨k, y, e1, hl, rfl⟩
    · exact absurd hl dead

/-- A block that was told of before is made. -/
theorem tr_make {μ : Mu} {S : Stab} {h : List Blk} {w : World} (i : Inv μ S h w) {k : Nat} {cs : List V} {vals : List Value} {el : TypeId} (hk : h[k]? = some .ghost)
    (hr : V.rels μ S h cs vals) (hv : ∀ v ∈ vals, cellVal v) :
    Tr μ S h w (μ.upd k ⟨w.heap.size, 0⟩) S (h.set k (.cells cs)) (w.alloc (.cells vals.toArray el)) := by
  have hK : Kp μ S h (μ.upd k ⟨w.heap.size, 0⟩) S (h.set k (.cells cs)) := kp_set (Stab.le_refl S) hk (fun j _ q => Mu.upd_ne _ _ q) (fun q => by cases q) (fun _ _ q => by cases q) (fun _ => rfl)
  have hnone : ∀ o, S w.heap.size o = none := fun o => by
    cases q : S w.heap.size o with
    | none => rfl
    | some v => have := i.stlt q; omega
  refine { inv := { st := ?_, bl := ?_, inj := ?_, sepc := ?_, sept := ?_ }, kp := hK, fresh := fun _ _ _ a b => by simp [a] at b, frame := fun b hb _ => heap_alloc_old _ _ _ hb, own := ?_, size := by simp, os := rfl, tape := rfl, output := rfl }
  · intro b o v e
    obtain ⟨h1, h2⟩ := i.st b o v e
    exact ⟨by rw [World.cell?_alloc_lt (h := i.stlt e)]; exact h1, h2⟩
  · intro j y e
    rcases get_set e with ⟨rfl, _, rfl⟩ | ⟨hj, e1⟩
    · rw [Mu.upd_same]
      exact ⟨vals, el, heap_alloc_new _ _, V.rels_mono hK _ _ hr, hv⟩
    · rw [Mu.upd_ne _ _ hj]
      by_cases hl : y.live
      · exact Blk.rel_mono hK (heap_alloc_old _ _ _ (i.lt e1 hl)) y (i.bl j y e1)
      · cases y with
        | absent => trivial
        | ghost => trivial
        | cells _ => exact absurd trivial hl
        | tip _ _ => exact fun h0 => absurd h0 hl
  · intro a b y z ea eb hy hz q
    rcases get_set ea with ⟨rfl, _, _⟩ | ⟨ha, e1⟩ <;> rcases get_set eb with ⟨rfl, _, _⟩ | ⟨hb, e2⟩
    · rfl
    · rw [Mu.upd_same, Mu.upd_ne _ _ hb] at q; have := i.lt e2 hz; simp at q; omega
    · rw [Mu.upd_same, Mu.upd_ne _ _ ha] at q; have := i.lt e1 hy; simp at q; omega
    · rw [Mu.upd_ne _ _ ha, Mu.upd_ne _ _ hb] at q; exact i.inj a b y z e1 e2 hy hz q
  · intro j c e o
    rcases get_set e with ⟨rfl, _, _⟩ | ⟨hj, e1⟩
    · rw [Mu.upd_same]; exact hnone o
    · rw [Mu.upd_ne _ _ hj]; exact i.sepc j c e1 o
  · intro j s a e hp o ho
    rcases get_set e with ⟨rfl, _, e1⟩ | ⟨hj, e1⟩
    · cases e1
    · rw [Mu.upd_ne _ _ hj]; exact i.sept j s a e1 hp o ho
  · rintro b ⟨j, y, e, hl, rfl⟩
    rcases get_set e with ⟨rfl, _, _⟩ | ⟨hj, e1⟩
    · rw [Mu.upd_same]; exact .inl (Nat.le_refl _)
    · rw [Mu.upd_ne _ _ hj]; exact .inr ⟨j, y, e1, hl, rfl⟩

/-- Blocks that will be made are told of. -/
theorem tr_tell {μ : Mu} {S : Stab} {h : List Blk} {w : World} (i : Inv μ S h w) : ∀ n : Nat, Tr μ S h w μ S (h ++ List.replicate n .ghost) w := by
  intro n
  have hk : Kp μ S h μ S (h ++ List.replicate n .ghost) := kp_append _ _ _ _ _ (fun k hk => rfl)
  have hget : ∀ (k : Nat) (y : Blk), (h ++ List.replicate n Blk.ghost)[k]? = some y → h[k]? = some y ∨ y = .ghost := by
    intro k y e
    rcases Nat.lt_or_ge k h.length with g | g
    · rw [List.getElem?_append_left g] at e; exact .inl e
    · rw [List.getElem?_append_right g] at e
      exact .inr (List.eq_of_mem_replicate (List.mem_of_getElem? e))
  have dead : ¬ Blk.ghost.live := by simp [Blk.live]
  refine { inv := { st := i.st, bl := ?_, inj := ?_, sepc := ?_, sept := ?_ }, kp := hk, fresh := fun _ _ _ a b => by simp [a] at b, frame := fun _ _ _ => rfl, own := ?_, size := Nat.le_refl _, os := rfl, tape := rfl, output := rfl }
  · intro k y e
    rcases hget k y e with e' | rfl
    · exact Blk.rel_mono hk rfl y (i.bl k y e')
    · trivial
  · intro k l y z ek el hy hz e
    rcases hget k y ek with e1 | rfl
    · rcases hget l z el with e2 | rfl
      · exact i.inj k l y z e1 e2 hy hz e
      · exact absurd hz dead
    · exact absurd hy dead
  · intro k cs e o
    rcases hget k _ e with e1 | e1
    · exact i.sepc k cs e1 o
    · cases e1
  · intro k sz' n' e hp o ho
    rcases hget k _ e with e1 | e1
    · exact i.sept k sz' n' e1 hp o ho
    · cases e1
  · rintro b ⟨k, y, e, hl, rfl⟩
    rcases hget k y e with e1 | rfl
    · exact .inr ⟨k, y, e1, hl, rfl⟩
    · exact absurd hl dead

end Go.Ev
