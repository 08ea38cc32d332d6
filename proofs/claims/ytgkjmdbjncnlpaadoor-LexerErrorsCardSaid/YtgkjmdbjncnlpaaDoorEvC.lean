/- A cell written; a block made firm; lists that grow. -/
import Derived.Test.YtgkjmdbjncnlpaaDoorEvB
namespace Go.Ev
set_option linter.unusedVariables false

theorem get_set {α : Type} {l : List α} {k i : Nat} {x y : α} (h : (l.set k x)[i]? = some y) : (i = k ∧ k < l.length ∧ y = x) ∨ (i ≠ k ∧ l[i]? = some y) := by
  rw [List.getElem?_set] at h
  split at h
  · rename_i e
    split at h
    · injection h with h; exact .inl ⟨e.symm, by assumption, h.symm⟩
    · cases h
  · rename_i e
    exact .inr ⟨fun g => e g.symm, h⟩

theorem V.rels_length {μ : Mu} {S : Stab} {h : List Blk} : ∀ {xs : List V} {vs : List Value}, V.rels μ S h xs vs → xs.length = vs.length
  | [], _, r => by rw [show _ = [] from r]; rfl
  | _ :: _, _, ⟨_, _, e, _, r⟩ => by rw [e]; simp [V.rels_length r]

theorem D.rels_length {S : Stab} : ∀ {xs : List D} {vs : List Value}, D.rels S xs vs → xs.length = vs.length
  | [], _, r => by rw [show _ = [] from r]; rfl
  | _ :: _, _, ⟨_, _, e, _, r⟩ => by rw [e]; simp [D.rels_length r]

theorem V.rels_get {μ : Mu} {S : Stab} {h : List Blk} : ∀ {xs : List V} {vs : List Value} (i : Nat) (x : V), V.rels μ S h xs vs → xs[i]? = some x →
    ∃ v, vs[i]? = some v ∧ V.rel μ S h x v
  | [], _, i, x, _, e => by simp at e
  | y :: ys, _, 0, x, ⟨v, ws, e, r, _⟩, e' => by subst e; simp at e'; subst e'; exact ⟨v, rfl, r⟩
  | y :: ys, _, i + 1, x, ⟨v, ws, e, _, r⟩, e' => by subst e; simp at e'; simpa using V.rels_get i x r e'

theorem V.rels_set {μ : Mu} {S : Stab} {h : List Blk} : ∀ {xs : List V} {vs : List Value} (i : Nat) (x : V) (v : Value), V.rels μ S h xs vs → V.rel μ S h x v →
    V.rels μ S h (xs.set i x) (vs.set i v)
  | [], _, i, x, v, r, _ => by rw [show _ = [] from r]; rfl
  | y :: ys, _, 0, x, v, ⟨u, ws, e, _, r⟩, r' => by subst e; exact ⟨v, ws, rfl, r', r⟩
  | y :: ys, _, i + 1, x, v, ⟨u, ws, e, r0, r⟩, r' => by subst e; exact ⟨u, ws.set i v, rfl, r0, V.rels_set i x v r r'⟩

theorem V.rels_append {μ : Mu} {S : Stab} {h : List Blk} : ∀ {xs ys : List V} {vs us : List Value}, V.rels μ S h xs vs → V.rels μ S h ys us → V.rels μ S h (xs ++ ys) (vs ++ us)
  | [], _, _, _, r, r' => by rw [show _ = [] from r]; exact r'
  | x :: xs, _, _, _, ⟨v, ws, e, r0, r⟩, r' => by subst e; exact ⟨v, ws ++ _, rfl, r0, V.rels_append r r'⟩

theorem kp_set {μ μ' : Mu} {S S' : Stab} {h : List Blk} {k : Nat} {x y : Blk} (hs : S.le S') (hx : h[k]? = some x) (hk : ∀ i, i < h.length → i ≠ k → μ' i = μ i)
    (hc : x.fixed = true → μ' k = μ k ∧ y.fixed = true)
    (ht : ∀ sz n, x = .tip sz n → ∃ n', y = .tip sz n' ∧ n ≤ n' ∧ (n' = n → μ' k = μ k)) (hg : x = .ghost → y.fixed = true := by intro q; cases q) : Kp μ S h μ' S' (h.set k y) where
  sub := hs
  len := by simp
  keepc := fun i hi hn => by
    by_cases e : i = k
    · subst e; exact (hc (hn x hx)).1
    · exact hk i hi e
  keept := fun i sz n e => by
    by_cases g : i = k
    · subst g
      rw [hx] at e; injection e with e
      obtain ⟨n', h1, h2, h3⟩ := ht sz n e
      exact ⟨n', by rw [List.getElem?_set_self (lt_of_get hx), h1], h2, h3⟩
    · exact ⟨n, by rw [List.getElem?_set_ne (fun q => g q.symm)]; exact e, Nat.le_refl _, fun _ => hk i (lt_of_get e) g⟩
  notip := fun i sz n hi e => by
    rcases get_set e with ⟨rfl, _, e1⟩ | ⟨_, e1⟩
    · cases hxx : x with
      | tip a b =>
        obtain ⟨n', h1, _, _⟩ := ht a b hxx
        rw [← e1] at h1; injection h1 with h1 _
        exact ⟨b, by rw [hx, hxx, h1]⟩
      | cells cs => have := (hc (by rw [hxx]; rfl)).2; rw [← e1] at this; cases this
      | absent => have := (hc (by rw [hxx]; rfl)).2; rw [← e1] at this; cases this
      | ghost => have := hg hxx; rw [← e1] at this; cases this
    · exact ⟨n, e1⟩
  noghost := fun i hi e => by
    rcases get_set e with ⟨rfl, _, e1⟩ | ⟨_, e1⟩
    · cases hxx : x with
      | tip a b => obtain ⟨n', h1, _, _⟩ := ht a b hxx; rw [← e1] at h1; cases h1
      | cells cs => have := (hc (by rw [hxx]; rfl)).2; rw [← e1] at this; cases this
      | absent => have := (hc (by rw [hxx]; rfl)).2; rw [← e1] at this; cases this
      | ghost => rw [hx, hxx]
    · exact e1

/-- One cell written. -/
theorem tr_store {μ : Mu} {S : Stab} {h : List Blk} {w : World} (i : Inv μ S h w) {k off : Nat} {cs : List V} {x : V} {v : Value}
    (hk : h[k]? = some (.cells cs)) (hr : V.rel μ S h x v) (hv : cellVal v) :
    Tr μ S h w μ S (h.set k (.cells (cs.set off x))) (w.setCell ⟨(μ k).blk, off, none⟩ v) := by
  obtain ⟨vals, el, hb, hvs, hcv⟩ := i.bl k _ hk
  have hK : Kp μ S h μ S (h.set k (.cells (cs.set off x))) := kp_set (Stab.le_refl S) hk (fun _ _ _ => rfl) (fun _ => ⟨rfl, rfl⟩) (fun _ _ q => by cases q)
  have hother : ∀ b, b ≠ (μ k).blk → (w.setCell ⟨(μ k).blk, off, none⟩ v).heap[b]? = w.heap[b]? := fun b hb' => heap_setCell_other _ _ _ _ hb'
  refine { inv := { st := ?_, bl := ?_, inj := ?_, sepc := ?_, sept := ?_ }, kp := hK, fresh := fun _ _ _ a b => by simp [a] at b, frame := ?_, own := ?_, size := by simp, os := rfl, tape := rfl, output := rfl }
  · intro b o u e
    obtain ⟨h1, h2⟩ := i.st b o u e
    refine ⟨?_, h2⟩
    have hne : b ≠ (μ k).blk := by
      intro q; subst q; rw [i.sepc k cs hk o] at e; cases e
    rw [World.cell?_of_block (w := w)]
    · exact h1
    · exact hother b hne
  · intro j y e
    rcases get_set e with ⟨rfl, _, rfl⟩ | ⟨hj, e1⟩
    · refine ⟨vals.set off v, el, ?_, ?_, ?_⟩
      · rw [heap_setCell_same _ _ _ _ _ _ hb]; simp
      · exact V.rels_mono hK _ _ (V.rels_set off x v hvs hr)
      · intro u hu
        rcases List.mem_or_eq_of_mem_set hu with g | g
        · exact hcv u g
        · subst g; exact hv
    · by_cases hl : y.live
      · refine Blk.rel_mono hK (hother _ (fun q => hj ?_)) y (i.bl j y e1)
        exact i.inj j k y _ e1 hk hl trivial q
      · cases y with
        | absent => trivial
        | ghost => trivial
        | cells _ => exact absurd trivial hl
        | tip _ _ => exact fun h0 => absurd h0 hl
  · intro a b y z ea eb hy hz q
    have live : ∀ {a : Nat} {y : Blk}, (h.set k (.cells (cs.set off x)))[a]? = some y → y.live → ∃ y', h[a]? = some y' ∧ y'.live := by
      intro a y ea hy
      rcases get_set ea with ⟨rfl, _, _⟩ | ⟨_, e1⟩
      · exact ⟨_, hk, trivial⟩
      · exact ⟨y, e1, hy⟩
    obtain ⟨y', e1, l1⟩ := live ea hy
    obtain ⟨z', e2, l2⟩ := live eb hz
    exact i.inj a b y' z' e1 e2 l1 l2 q
  · intro j c e o
    rcases get_set e with ⟨rfl, _, _⟩ | ⟨_, e1⟩
    · exact i.sepc j cs hk o
    · exact i.sepc j c e1 o
  · intro j sz n e hp o ho
    rcases get_set e with ⟨rfl, _, e1⟩ | ⟨_, e1⟩
    · cases e1
    · exact i.sept j sz n e1 hp o ho
  · intro b _ ho
    exact hother b (fun q => ho ⟨k, _, hk, trivial, q.symm⟩)
  · rintro b ⟨j, y, e, hl, rfl⟩
    rcases get_set e with ⟨rfl, _, _⟩ | ⟨_, e1⟩
    · exact .inr ⟨j, _, hk, trivial, rfl⟩
    · exact .inr ⟨j, y, e1, hl, rfl⟩

theorem D.relAt_of {S : Stab} : ∀ {ds : List D} {vs : List Value} (b o : Nat), D.rels S ds vs → (∀ (j : Nat) v, vs[j]? = some v → S b (o + j) = some v) → D.relAt S ds b o
  | [], _, _, _, _, _ => trivial
  | d :: ds, _, b, o, ⟨v, ws, e, r, r'⟩, hS => by
    subst e
    refine ⟨⟨v, by simpa using hS 0 v rfl, r⟩, D.relAt_of b (o + 1) r' fun j u hu => ?_⟩
    have := hS (j + 1) u (by simpa using hu)
    rw [show o + 1 + j = o + (j + 1) by omega]; exact this

theorem D.relAt_get {S : Stab} : ∀ {ds : List D} {b o : Nat} (j : Nat) (d : D), D.relAt S ds b o → ds[j]? = some d → ∃ v, S b (o + j) = some v ∧ D.rel S d v
  | [], _, _, j, d, _, e => by simp at e
  | x :: xs, b, o, 0, d, ⟨r, _⟩, e => by simp at e; subst e; exact r
  | x :: xs, b, o, j + 1, d, ⟨_, r⟩, e => by
    obtain ⟨v, h1, h2⟩ := D.relAt_get j d r (by simpa using e)
    exact ⟨v, by rw [show o + (j + 1) = o + 1 + j by omega]; exact h1, h2⟩

theorem D.relAt_drop {S : Stab} : ∀ {ds : List D} {b o : Nat} (n : Nat), D.relAt S ds b o → D.relAt S (ds.drop n) b (o + n)
  | _, _, _, 0, r => r
  | [], _, _, _ + 1, _ => trivial
  | x :: xs, b, o, n + 1, ⟨_, r⟩ => by
    have := D.relAt_drop n r
    rw [show o + (n + 1) = o + 1 + n by omega]; exact this

theorem D.relAt_take {S : Stab} : ∀ {ds : List D} {b o : Nat} (n : Nat), D.relAt S ds b o → D.relAt S (ds.take n) b o
  | _, _, _, 0, _ => trivial
  | [], _, _, _ + 1, _ => trivial
  | x :: xs, b, o, n + 1, ⟨r0, r⟩ => ⟨r0, D.relAt_take n r⟩

theorem D.relAt_append {S : Stab} : ∀ {ds es : List D} {b o : Nat}, D.relAt S ds b o → D.relAt S es b (o + ds.length) → D.relAt S (ds ++ es) b o
  | [], _, _, _, _, r => r
  | x :: xs, _, b, o, ⟨r0, r⟩, r' => ⟨r0, D.relAt_append r (by rw [show o + 1 + xs.length = o + (xs.length + 1) by omega]; exact r')⟩

/-- The cells of a stretch of firm memory. -/
theorem D.relAt_vals {S : Stab} : ∀ {ds : List D} {b o : Nat}, D.relAt S ds b o → ∃ vs : List Value, D.rels S ds vs ∧ ∀ (j : Nat) v, vs[j]? = some v → S b (o + j) = some v
  | [], _, _, _ => ⟨[], rfl, fun j v e => by simp at e⟩
  | x :: xs, b, o, ⟨⟨v, h1, h2⟩, r⟩ => by
    obtain ⟨vs, r1, r2⟩ := D.relAt_vals r
    refine ⟨v :: vs, ⟨v, vs, rfl, h2, r1⟩, fun j u e => ?_⟩
    cases j with
    | zero => simp at e; subst e; exact h1
    | succ j => rw [show o + (j + 1) = o + 1 + j by omega]; exact r2 j u (by simpa using e)

theorem V.rels_d {μ : Mu} {S : Stab} {h : List Blk} : ∀ {ds : List D} {vs : List Value}, V.rels μ S h (ds.map .d) vs ↔ D.rels S ds vs
  | [], _ => Iff.rfl
  | x :: ds, vs => by
    constructor
    · rintro ⟨v, ws, e, r, r'⟩; exact ⟨v, ws, e, r, V.rels_d.1 r'⟩
    · rintro ⟨v, ws, e, r, r'⟩; exact ⟨v, ws, e, r, V.rels_d.2 r'⟩

/-- What has no room at all is a list of nothing, whatever its address. -/
theorem lst_zero {S : Stab} {sz n : Nat} {cells : List D} {ex : Bool} {base : Option Addr} {v : Value} (e : v = .slice base n 0) (h1 : n = 0) (h2 : cells.length = n * sz) : D.rel S (.lst sz n cells ex) v := by
  subst h1
  have hc : cells = [] := by cases cells with | nil => rfl | cons _ _ => simp at h2
  subst hc
  refine ⟨base, 0, e, Nat.le_refl _, fun _ => rfl, h2, ?_⟩
  cases base with
  | none => exact .inl ⟨rfl, rfl⟩
  | some a => obtain ⟨b, o, sp⟩ := a; exact .inr ⟨b, o, sp, rfl, trivial, fun h => by omega⟩

theorem gs_lst {S : Stab} {sz n cap : Nat} {cells : List D} {base : Option Addr} {v : Value} {Q : Nat → Prop} (e : v = .slice base n cap) (q1 : n ≤ cap) (q2 : cells.length = n * sz)
    (q3 : (n = 0 ∧ cap = 0) ∨ 0 < n ∧ ∃ b, base = some ⟨b, 0, none⟩ ∧ D.relAt S cells b 0 ∧ Q b) : D.rel S (.lst sz n cells false) v := by
  rcases q3 with ⟨h1, h2⟩ | ⟨_, b, hb, hr, _⟩
  · subst h2; exact lst_zero e h1 q2
  · exact ⟨base, cap, e, q1, fun h => (by cases h), q2, .inr ⟨b, 0, none, hb, hr, fun _ => rfl⟩⟩

/-- A value as plain data: a growing list is read as it stands. -/
def V.toD : V → Option D
  | .d x => some x
  | .gs _ sz n cells => some (.lst sz n cells false)
  | _ => none

def toDs : List V → Option (List D)
  | [] => some []
  | v :: vs => match v.toD, toDs vs with
    | some d, some ds => some (d :: ds)
    | _, _ => none

theorem toDs_rel {μ : Mu} {S : Stab} {h : List Blk} : ∀ {vs : List V} {ds : List D} {xs : List Value}, toDs vs = some ds → V.rels μ S h vs xs → D.rels S ds xs
  | [], ds, xs, e, r => by simp [toDs] at e; subst e; exact r
  | v :: vs, ds, _, e, ⟨x, xs, e2, r0, r⟩ => by
    subst e2
    simp only [toDs] at e
    split at e
    · rename_i d ds' h1 h2
      injection e with e; subst e
      refine ⟨x, xs, rfl, ?_, toDs_rel h2 r⟩
      unfold V.toD at h1
      split at h1
      · injection h1 with h1; subst h1; exact r0
      · injection h1 with h1; subst h1
        obtain ⟨_, base, cap, e1, q1, q2, q3⟩ := r0
        exact gs_lst e1 q1 q2 q3
      · cases h1
    · cases e

/-- A block of plain data becomes firm memory. -/
theorem tr_firm {μ : Mu} {S : Stab} {h : List Blk} {w : World} (i : Inv μ S h w) {k : Nat} {cs : List V} {ds : List D} (hk : h[k]? = some (.cells cs)) (hd : toDs cs = some ds) :
    ∃ S', Tr μ S h w μ S' (h.set k .absent) w ∧ D.relAt S' ds (μ k).blk 0 := by
  obtain ⟨vals, el, hb, hvs, hcv⟩ := i.bl k _ hk
  have hvs := toDs_rel hd hvs
  let S' : Stab := fun b o => if b = (μ k).blk then vals[o]? else S b o
  have hle : S.le S' := by
    intro b o v e
    by_cases q : b = (μ k).blk
    · subst q; rw [i.sepc k _ hk o] at e; cases e
    · simp [S', q, e]
  have hS : ∀ o, S' (μ k).blk o = vals[o]? := fun o => by simp [S']
  have hS2 : ∀ b o, b ≠ (μ k).blk → S' b o = S b o := fun b o q => by simp [S', q]
  have hK : Kp μ S h μ S' (h.set k .absent) := kp_set hle hk (fun _ _ _ => rfl) (fun _ => ⟨rfl, rfl⟩) (fun _ _ q => by cases q)
  have live : ∀ {a : Nat} {y : Blk}, (h.set k .absent)[a]? = some y → y.live → a ≠ k ∧ h[a]? = some y := by
    intro a y ea hy
    rcases get_set ea with ⟨rfl, _, rfl⟩ | ⟨q, e1⟩
    · exact hy.elim
    · exact ⟨q, e1⟩
  refine ⟨S', { inv := { st := ?_, bl := ?_, inj := ?_, sepc := ?_, sept := ?_ }, kp := hK, fresh := ?_, frame := fun _ _ _ => rfl, own := ?_, size := Nat.le_refl _, os := rfl, tape := rfl, output := rfl }, ?_⟩
  · intro b o v e
    by_cases q : b = (μ k).blk
    · subst q; rw [hS] at e
      refine ⟨?_, hcv v (List.mem_of_getElem? e)⟩
      rw [cell_of_row _ _ _ _ _ _ hb]; simpa using e
    · rw [hS2 _ _ q] at e; exact i.st b o v e
  · intro j y e
    by_cases hl : y.live
    · obtain ⟨_, e1⟩ := live e hl
      exact Blk.rel_mono hK rfl y (i.bl j y e1)
    · cases y with
      | absent => trivial
      | ghost => trivial
      | cells _ => exact absurd trivial hl
      | tip _ _ => exact fun h0 => absurd h0 hl
  · intro a b y z ea eb hy hz q
    exact i.inj a b y z (live ea hy).2 (live eb hz).2 hy hz q
  · intro j c e o
    obtain ⟨hj, e1⟩ := live e trivial
    rw [hS2 _ _ (fun q => hj (i.inj j k _ _ e1 hk trivial trivial q))]; exact i.sepc j c e1 o
  · intro j sz n e hp o ho
    obtain ⟨hj, e1⟩ := live e hp
    rw [hS2 _ _ (fun q => hj (i.inj j k _ _ e1 hk hp trivial q))]; exact i.sept j sz n e1 hp o ho
  · intro b o v e e0
    by_cases q : b = (μ k).blk
    · exact .inr ⟨k, _, hk, trivial, q.symm⟩
    · rw [hS2 _ _ q, e0] at e; cases e
  · rintro b ⟨j, y, e, hl, rfl⟩
    exact .inr ⟨j, y, (live e hl).2, hl, rfl⟩
  · exact D.relAt_of _ _ (D.rels_mono hle _ _ hvs) (fun j v e => by rw [hS]; simpa using e)

/-- The row of a growing list: a new block with room behind what it holds. -/
theorem tr_tip_new {μ : Mu} {S : Stab} {h : List Blk} {w : World} (i : Inv μ S h w) (sz n cap : Nat) (ds : List D) (vals rest : List Value) (el : TypeId)
    (hr : D.rels S ds vals) (hv : ∀ v ∈ vals, cellVal v) (hl : ds.length = n * sz) (hc : n ≤ cap) (hs : (vals ++ rest).length = cap * sz) :
    ∃ S', Tr μ S h w (μ.upd h.length ⟨w.heap.size, cap⟩) S' (h ++ [.tip sz n]) (w.alloc (.cells (vals ++ rest).toArray el)) ∧ D.relAt S' ds w.heap.size 0 := by
  have hlen := D.rels_length hr
  let S' : Stab := fun b o => if b = w.heap.size then vals[o]? else S b o
  have hnone : ∀ o, S w.heap.size o = none := fun o => by
    cases q : S w.heap.size o with
    | none => rfl
    | some v => have := i.stlt q; omega
  have hle : S.le S' := by
    intro b o v e
    by_cases q : b = w.heap.size
    · subst q; rw [hnone] at e; cases e
    · simp [S', q, e]
  have hS : ∀ o, S' w.heap.size o = vals[o]? := fun o => by simp [S']
  have hS2 : ∀ b o, b ≠ w.heap.size → S' b o = S b o := fun b o q => by simp [S', q]
  have t := tr_new (w' := w.alloc (.cells (vals ++ rest).toArray el)) i (.tip sz n) _ cap rfl
    (fun _ => ⟨(vals ++ rest).toArray, el, heap_alloc_new _ _, by simp only [List.size_toArray]; rw [hs]; exact Nat.le_refl _, hc⟩)
  have hkp : Kp (μ.upd h.length ⟨w.heap.size, cap⟩) S (h ++ [.tip sz n]) (μ.upd h.length ⟨w.heap.size, cap⟩) S' (h ++ [.tip sz n]) :=
    ⟨hle, Nat.le_refl _, fun _ _ _ => rfl, fun _ _ n e => ⟨n, e, Nat.le_refl _, fun _ => rfl⟩, fun _ _ n _ e => ⟨n, e⟩, fun _ _ e => e⟩
  refine ⟨S', { inv := { st := ?_, bl := fun j y e => Blk.rel_mono hkp rfl y (t.inv.bl j y e), inj := t.inv.inj, sepc := ?_, sept := ?_ }, kp := t.kp.trans hkp, fresh := ?_, frame := t.frame, own := t.own, size := t.size, os := rfl, tape := rfl, output := rfl }, ?_⟩
  · intro b o v e
    by_cases q : b = w.heap.size
    · subst q; rw [hS] at e
      refine ⟨?_, hv v (List.mem_of_getElem? e)⟩
      rw [cell_of_row _ _ _ _ _ _ (heap_alloc_new _ _)]
      simp only [List.getElem?_toArray]
      rw [List.getElem?_append_left (lt_of_get e)]; exact e
    · rw [hS2 _ _ q] at e; exact t.inv.st b o v e
  · intro j c e o
    rcases Nat.lt_or_ge j h.length with g | g
    · rw [List.getElem?_append_left g] at e
      rw [Mu.upd_ne _ _ (by omega), hS2 _ _ (by have := i.lt e trivial; omega)]; exact i.sepc j c e o
    · rw [List.getElem?_append_right g] at e
      cases hq : j - h.length with
      | zero => rw [hq] at e; simp at e
      | succ q => rw [hq] at e; simp at e
  · intro j s m e hp o ho
    rcases Nat.lt_or_ge j h.length with g | g
    · rw [List.getElem?_append_left g] at e
      rw [Mu.upd_ne _ _ (by omega), hS2 _ _ (by have := i.lt e hp; omega)]; exact i.sept j s m e hp o ho
    · rw [List.getElem?_append_right g] at e
      cases hq : j - h.length with
      | succ q => rw [hq] at e; simp at e
      | zero =>
        rw [hq] at e; simp at e; obtain ⟨rfl, rfl⟩ := e
        have : j = h.length := by omega
        subst this
        rw [Mu.upd_same, hS, List.getElem?_eq_none (by omega)]
  · intro b o v e e0
    by_cases q : b = w.heap.size
    · exact .inl (by omega)
    · rw [hS2 _ _ q, e0] at e; cases e
  · exact D.relAt_of _ _ (D.rels_mono hle _ _ hr) (fun j v e => by rw [hS]; simpa using e)

end Go.Ev
