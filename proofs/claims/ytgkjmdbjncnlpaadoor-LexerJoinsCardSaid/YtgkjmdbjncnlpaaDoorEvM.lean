/- Blocks that nobody names any more are left out of the abstract memory, and the others moved together. -/
import Derived.Test.YtgkjmdbjncnlpaaDoorEvL
namespace Go.Ev
set_option linter.unusedVariables false
set_option linter.unusedSimpArgs false

mutual
def V.ids : V → List Nat
  | .d _ => []
  | .ptr id _ => [id]
  | .gs id _ _ _ => [id]
  | .sl id _ _ _ _ => [id]
  | .agg cs => V.idsL cs
  | .tup cs => V.idsL cs
  | .fn _ a b => V.idsL a ++ V.idsL b
  | .ifc _ v => V.ids v
def V.idsL : List V → List Nat
  | [] => []
  | v :: vs => V.ids v ++ V.idsL vs
end

mutual
def V.ren (ρ : Nat → Option Nat) : V → Option V
  | .d x => some (.d x)
  | .ptr id off => match ρ id with | some k => some (.ptr k off) | none => none
  | .gs id sz n cells => match ρ id with | some k => some (.gs k sz n cells) | none => none
  | .sl id off sz n cap => match ρ id with | some k => some (.sl k off sz n cap) | none => none
  | .agg cs => match V.renL ρ cs with | some x => some (.agg x) | none => none
  | .tup cs => match V.renL ρ cs with | some x => some (.tup x) | none => none
  | .fn f a b => match V.renL ρ a, V.renL ρ b with | some x, some y => some (.fn f x y) | _, _ => none
  | .ifc t v => match V.ren ρ v with | some x => some (.ifc t x) | none => none
def V.renL (ρ : Nat → Option Nat) : List V → Option (List V)
  | [] => some []
  | v :: vs => match V.ren ρ v, V.renL ρ vs with | some x, some xs => some (x :: xs) | _, _ => none
end

def Blk.ids : Blk → List Nat
  | .cells cs => V.idsL cs
  | _ => []

def Blk.ren (ρ : Nat → Option Nat) : Blk → Option Blk
  | .cells cs => match V.renL ρ cs with | some x => some (.cells x) | none => none
  | b => some b

def Blk.renL (ρ : Nat → Option Nat) : List Blk → Option (List Blk)
  | [] => some []
  | b :: bs => match b.ren ρ, Blk.renL ρ bs with | some x, some xs => some (x :: xs) | _, _ => none

def ixOf (i : Nat) : List Nat → Option Nat
  | [] => none
  | j :: r => if i = j then some 0 else match ixOf i r with | some k => some (k + 1) | none => none

def rho (n : Nat) (sel : List Nat) (i : Nat) : Option Nat := if i < n then some i else match ixOf i sel with | some k => some (n + k) | none => none

def addNew (n : Nat) : List Nat → List Nat → List Nat
  | s, [] => s
  | s, i :: r => if i < n ∨ i ∈ s then addNew n s r else addNew n (s ++ [i]) r

def getBs (h : List Blk) : List Nat → Option (List Blk)
  | [] => some []
  | i :: r => match h[i]?, getBs h r with | some b, some bs => some (b :: bs) | _, _ => none

def idsB : List Blk → List Nat
  | [] => []
  | b :: bs => b.ids ++ idsB bs

/-- What is kept of the blocks from n on: what the values, the older blocks and the kept blocks name. -/
def compact (n : Nat) (vs : List V) (h : List Blk) : List V × List Blk :=
  let s1 := addNew n [] (V.idsL vs ++ idsB (h.take n))
  match getBs h s1 with
  | some b1 =>
    let s2 := addNew n s1 (idsB b1)
    match getBs h s2 with
    | some b2 => match V.renL (rho n s2) vs, Blk.renL (rho n s2) (h.take n), Blk.renL (rho n s2) b2 with
      | some vs', some x, some y => if n ≤ h.length then (vs', x ++ y) else (vs, h)
      | _, _, _ => (vs, h)
    | none => (vs, h)
  | none => (vs, h)

/-! ### Soundness -/

structure Ren (ρ : Nat → Option Nat) (μ : Mu) (h : List Blk) (μ' : Mu) (h' : List Blk) : Prop where
  lt : ∀ i k, ρ i = some k → k < h'.length
  mu : ∀ i k, ρ i = some k → μ' k = μ i
  tip : ∀ i k sz m, ρ i = some k → h'[k]? = some (.tip sz m) → h[i]? = some (.tip sz m)
  gho : ∀ i k, ρ i = some k → h'[k]? = some .ghost → h[i]? = some .ghost

theorem Ren.fix {ρ : Nat → Option Nat} {μ μ' : Mu} {h h' : List Blk} (R : Ren ρ μ h μ' h') {i k : Nat} (e : ρ i = some k) (f : Fix h[i]?) : Fix h'[k]? := by
  intro x hx
  cases x with
  | tip sz n => exact absurd (f _ (R.tip i k sz n e hx)) (by simp [Blk.fixed])
  | ghost => exact absurd (f _ (R.gho i k e hx)) (by simp [Blk.fixed])
  | cells _ => rfl
  | absent => rfl

mutual
theorem V.ren_rel {ρ : Nat → Option Nat} {μ μ' : Mu} {S : Stab} {h h' : List Blk} (R : Ren ρ μ h μ' h') : ∀ (v v' : V) (x : Value), V.ren ρ v = some v' → V.rel μ S h v x → V.rel μ' S h' v' x
  | .d y, v', x, e, r => by simp only [V.ren, Option.some.injEq] at e; subst e; exact r
  | .ptr id off, v', x, e, ⟨h1, h2, h3⟩ => by
    simp only [V.ren] at e
    split at e
    · rename_i k hk
      injection e with e; subst e
      exact ⟨R.lt _ _ hk, R.fix hk h2, by rw [R.mu _ _ hk]; exact h3⟩
    · cases e
  | .gs id sz n cells, v', x, e, ⟨h1, b, cap, h2, h3, h4, h5⟩ => by
    simp only [V.ren] at e
    split at e
    · rename_i k hk
      injection e with e; subst e
      exact ⟨R.lt _ _ hk, b, cap, h2, h3, h4, h5.imp_right fun ⟨hp, b', e', h5, h6⟩ => ⟨hp, b', e', h5, fun m q => by rw [R.mu _ _ hk]; exact h6 m (R.tip _ _ _ _ hk q)⟩⟩
    · cases e
  | .sl id off sz n cap, v', x, e, ⟨h1, h2, h3, h4⟩ => by
    simp only [V.ren] at e
    split at e
    · rename_i k hk
      injection e with e; subst e
      exact ⟨R.lt _ _ hk, R.fix hk h2, h3, by rw [R.mu _ _ hk]; exact h4⟩
    · cases e
  | .agg cs, v', x, e, ⟨vs, e2, r⟩ => by
    simp only [V.ren] at e
    split at e
    · rename_i ds hd
      injection e with e; subst e
      exact ⟨vs, e2, V.renL_rel R _ _ _ hd r⟩
    · cases e
  | .tup cs, v', x, e, ⟨vs, e2, r⟩ => by
    simp only [V.ren] at e
    split at e
    · rename_i ds hd
      injection e with e; subst e
      exact ⟨vs, e2, V.renL_rel R _ _ _ hd r⟩
    · cases e
  | .fn f a b, v', x, e, ⟨p, q, e2, r1, r2⟩ => by
    simp only [V.ren] at e
    split at e
    · rename_i d1 d2 hd1 hd2
      injection e with e; subst e
      exact ⟨p, q, e2, V.renL_rel R _ _ _ hd1 r1, V.renL_rel R _ _ _ hd2 r2⟩
    · cases e
  | .ifc t v, v', x, e, ⟨u, e2, r⟩ => by
    simp only [V.ren] at e
    split at e
    · rename_i d hd
      injection e with e; subst e
      exact ⟨u, e2, V.ren_rel R _ _ _ hd r⟩
    · cases e
theorem V.renL_rel {ρ : Nat → Option Nat} {μ μ' : Mu} {S : Stab} {h h' : List Blk} (R : Ren ρ μ h μ' h') : ∀ (vs vs' : List V) (xs : List Value), V.renL ρ vs = some vs' → V.rels μ S h vs xs → V.rels μ' S h' vs' xs
  | [], vs', xs, e, r => by simp only [V.renL, Option.some.injEq] at e; subst e; exact r
  | v :: vs, vs', xs, e, ⟨x, ys, e2, r1, r2⟩ => by
    simp only [V.renL] at e
    split at e
    · rename_i d ds hd hds
      injection e with e; subst e
      exact ⟨x, ys, e2, V.ren_rel R _ _ _ hd r1, V.renL_rel R _ _ _ hds r2⟩
    · cases e
end

theorem Blk.renL_get {ρ : Nat → Option Nat} : ∀ {bs ys : List Blk}, Blk.renL ρ bs = some ys → ys.length = bs.length ∧ (∀ (i : Nat) y, ys[i]? = some y → ∃ b, bs[i]? = some b ∧ b.ren ρ = some y) ∧
    (∀ (i : Nat) b, bs[i]? = some b → ∃ y, ys[i]? = some y ∧ b.ren ρ = some y)
  | [], ys, e => by simp only [Blk.renL, Option.some.injEq] at e; subst e; exact ⟨rfl, fun i y q => by simp at q, fun i b q => by simp at q⟩
  | b :: bs, ys, e => by
    simp only [Blk.renL] at e
    split at e
    · rename_i x xs h1 h2
      injection e with e; subst e
      obtain ⟨g1, g2, g3⟩ := Blk.renL_get h2
      refine ⟨by simp [g1], fun i y q => ?_, fun i y q => ?_⟩
      · cases i with
        | zero => simp at q; subst q; exact ⟨b, rfl, h1⟩
        | succ i => simpa using g2 i y (by simpa using q)
      · cases i with
        | zero => simp at q; subst q; exact ⟨x, rfl, h1⟩
        | succ i => simpa using g3 i y (by simpa using q)
    · cases e

theorem ixOf_get {i : Nat} : ∀ {l : List Nat} {k : Nat}, ixOf i l = some k → l[k]? = some i
  | [], k, e => by simp [ixOf] at e
  | j :: r, k, e => by
    simp only [ixOf] at e
    split at e
    · rename_i h; injection e with e; subst e; simp [h]
    · split at e
      · rename_i m hm; injection e with e; subst e; simpa using ixOf_get hm
      · cases e

theorem ixOf_of {i : Nat} : ∀ {l : List Nat} {k : Nat}, l.Nodup → l[k]? = some i → ixOf i l = some k
  | [], k, _, e => by simp at e
  | j :: r, k, hn, e => by
    simp only [ixOf]
    cases k with
    | zero => simp at e; simp [e]
    | succ k =>
      simp only [List.getElem?_cons_succ] at e
      have hne : i ≠ j := fun q => (List.nodup_cons.1 hn).1 (q ▸ List.mem_of_getElem? e)
      rw [if_neg hne, ixOf_of (List.nodup_cons.1 hn).2 e]

theorem addNew_spec (n : Nat) : ∀ (l s : List Nat), s.Nodup → (∀ i ∈ s, n ≤ i) → (addNew n s l).Nodup ∧ ∀ i ∈ addNew n s l, n ≤ i
  | [], s, h1, h2 => ⟨h1, h2⟩
  | i :: r, s, h1, h2 => by
    simp only [addNew]
    split
    · exact addNew_spec n r s h1 h2
    · rename_i hc
      rw [not_or] at hc
      refine addNew_spec n r (s ++ [i]) ?_ ?_
      · rw [List.nodup_append]
        exact ⟨h1, by simp, fun a ha b hb => by simp at hb; subst hb; exact fun q => hc.2 (q ▸ ha)⟩
      · intro j hj
        rcases List.mem_append.1 hj with hj | hj
        · exact h2 j hj
        · simp at hj; subst hj; omega

theorem getBs_get {h : List Blk} : ∀ {l : List Nat} {bs : List Blk}, getBs h l = some bs → bs.length = l.length ∧ ∀ (k i : Nat), l[k]? = some i → bs[k]? = h[i]? ∧ i < h.length
  | [], bs, e => by simp only [getBs, Option.some.injEq] at e; subst e; exact ⟨rfl, fun k i q => by simp at q⟩
  | j :: r, bs, e => by
    simp only [getBs] at e
    split at e
    · rename_i b xs h1 h2
      injection e with e; subst e
      obtain ⟨g1, g2⟩ := getBs_get h2
      refine ⟨by simp [g1], fun k i q => ?_⟩
      cases k with
      | zero => simp at q; subst q; exact ⟨by simp [h1], lt_of_get h1⟩
      | succ k => simpa using g2 k i (by simpa using q)
    · cases e

theorem Blk.ren_tip {ρ : Nat → Option Nat} {b : Blk} {sz m : Nat} (e : b.ren ρ = some (.tip sz m)) : b = .tip sz m := by
  cases b with
  | cells cs => simp only [Blk.ren] at e; split at e <;> simp at e
  | tip a b => simpa [Blk.ren] using e
  | absent => simp [Blk.ren] at e
  | ghost => simp [Blk.ren] at e

theorem Blk.ren_ghost {ρ : Nat → Option Nat} {b : Blk} (e : b.ren ρ = some .ghost) : b = .ghost := by
  cases b with
  | cells cs => simp only [Blk.ren] at e; split at e <;> simp at e
  | tip a b => simp [Blk.ren] at e
  | absent => simp [Blk.ren] at e
  | ghost => rfl

theorem compact_ok {μ μ' : Mu} {S S' : Stab} {h h' h'' : List Blk} {w w' : World} {vs vs'' : List V} {xs : List Value} (t : Tr μ S h w μ' S' h' w') (r : V.rels μ' S' h' vs xs)
    (e : compact h.length vs h' = (vs'', h'')) : ∃ μ'', Tr μ S h w μ'' S' h'' w' ∧ V.rels μ'' S' h'' vs'' xs := by
  have same : (vs'', h'') = (vs, h') → ∃ μ'', Tr μ S h w μ'' S' h'' w' ∧ V.rels μ'' S' h'' vs'' xs := by
    intro q; injection q with q1 q2; subst q1; subst q2; exact ⟨μ', t, r⟩
  unfold compact at e
  simp only at e
  split at e
  case h_2 => exact same e.symm
  rename_i b1 hb1
  split at e
  case h_2 => exact same e.symm
  rename_i b2 hb2
  split at e
  case h_2 => exact same e.symm
  rename_i ws x y hw hx hy
  split at e
  case isFalse => exact same e.symm
  rename_i hn
  injection e with e1 e2; subst e1; subst e2
  generalize hs2 : addNew h.length (addNew h.length [] (V.idsL vs ++ idsB (h'.take h.length))) (idsB b1) = sel at *
  have hsel : sel.Nodup ∧ ∀ i ∈ sel, h.length ≤ i := by
    obtain ⟨g1, g2⟩ := addNew_spec h.length (V.idsL vs ++ idsB (h'.take h.length)) [] (by simp) (by simp)
    have := addNew_spec h.length (idsB b1) _ g1 g2
    rw [hs2] at this; exact this
  obtain ⟨hx1, hx2, hx3⟩ := Blk.renL_get hx
  obtain ⟨hy1, hy2, hy3⟩ := Blk.renL_get hy
  obtain ⟨hb3, hb4⟩ := getBs_get hb2
  have hxl : x.length = h.length := by rw [hx1, List.length_take]; omega
  have hyl : y.length = sel.length := by rw [hy1, hb3]
  let μ'' : Mu := fun k => if k < h.length then μ' k else μ' ((sel[k - h.length]?).getD 0)
  -- from new to old
  have back : ∀ (k : Nat) (b : Blk), (x ++ y)[k]? = some b → ∃ i a, rho h.length sel i = some k ∧ h'[i]? = some a ∧ a.ren (rho h.length sel) = some b := by
    intro k b hk
    rcases Nat.lt_or_ge k h.length with g | g
    · rw [List.getElem?_append_left (by omega)] at hk
      obtain ⟨a, q1, q2⟩ := hx2 k b hk
      rw [List.getElem?_take, if_pos g] at q1
      exact ⟨k, a, by simp [rho, g], q1, q2⟩
    · rw [List.getElem?_append_right (by omega), hxl] at hk
      obtain ⟨a, q1, q2⟩ := hy2 _ b hk
      have hlt : k - h.length < sel.length := by rw [← hyl]; exact lt_of_get hk
      have hi := List.getElem?_eq_getElem hlt
      obtain ⟨q3, q4⟩ := hb4 _ _ hi
      have hge := hsel.2 _ (List.mem_of_getElem? hi)
      refine ⟨_, a, ?_, by rw [← q3]; exact q1, q2⟩
      unfold rho
      rw [if_neg (by omega), ixOf_of hsel.1 hi]
      simp; omega
  have fwd : ∀ i k, rho h.length sel i = some k → k < (x ++ y).length ∧ μ'' k = μ' i ∧ ∀ b, (x ++ y)[k]? = some b → ∃ a, h'[i]? = some a ∧ a.ren (rho h.length sel) = some b := by
    intro i k hk
    unfold rho at hk
    split at hk
    · rename_i g
      injection hk with hk; subst hk
      refine ⟨by simp; omega, by simp [μ'', g], fun b hb => ?_⟩
      rw [List.getElem?_append_left (by omega)] at hb
      obtain ⟨a, q1, q2⟩ := hx2 i b hb
      rw [List.getElem?_take, if_pos g] at q1
      exact ⟨a, q1, q2⟩
    · rename_i g
      split at hk
      · rename_i m hm
        injection hk with hk; subst hk
        have hgm := ixOf_get hm
        have hlt := lt_of_get hgm
        refine ⟨by simp; omega, ?_, fun b hb => ?_⟩
        · simp only [μ'']
          rw [if_neg (by omega), show h.length + m - h.length = m by omega, hgm]; rfl
        · rw [List.getElem?_append_right (by omega), hxl, show h.length + m - h.length = m by omega] at hb
          obtain ⟨a, q1, q2⟩ := hy2 m b hb
          obtain ⟨q3, _⟩ := hb4 m i hgm
          exact ⟨a, by rw [← q3]; exact q1, q2⟩
      · cases hk
  have R : Ren (rho h.length sel) μ' h' μ'' (x ++ y) :=
    ⟨fun i k q => (fwd i k q).1, fun i k q => (fwd i k q).2.1, fun i k sz m q q' => by
      obtain ⟨a, q1, q2⟩ := (fwd i k q).2.2 _ q'
      rw [q1, Blk.ren_tip q2], fun i k q q' => by
      obtain ⟨a, q1, q2⟩ := (fwd i k q).2.2 _ q'
      rw [q1, Blk.ren_ghost q2]⟩
  have live : ∀ {a b : Blk}, a.ren (rho h.length sel) = some b → b.live → a.live := by
    intro a b q hl
    cases a with
    | absent => simp only [Blk.ren] at q; injection q with q; subst q; exact hl
    | ghost => simp only [Blk.ren] at q; injection q with q; subst q; exact hl
    | tip sz n => simp only [Blk.ren] at q; injection q with q; subst q; exact hl
    | cells cs => trivial
  have i' := t.inv
  refine ⟨μ'', { inv := ?_, kp := ?_, fresh := t.fresh, frame := t.frame, own := ?_, size := t.size, os := t.os, tape := t.tape, output := t.output }, V.renL_rel R _ _ _ hw r⟩
  · refine { st := i'.st, bl := ?_, inj := ?_, sepc := ?_, sept := ?_ }
    · intro k b hk
      obtain ⟨i, a, q1, q2, q3⟩ := back k b hk
      have hr := i'.bl i a q2
      rw [(fwd i k q1).2.1]
      cases a with
      | cells cs =>
        simp only [Blk.ren] at q3
        split at q3
        · rename_i ds hd
          injection q3 with q3; subst q3
          obtain ⟨vals, el, g1, g2, g3⟩ := hr
          exact ⟨vals, el, g1, V.renL_rel R _ _ _ hd g2, g3⟩
        · cases q3
      | tip sz n => simp only [Blk.ren] at q3; injection q3 with q3; subst q3; exact hr
      | absent => simp only [Blk.ren] at q3; injection q3 with q3; subst q3; trivial
      | ghost => simp only [Blk.ren] at q3; injection q3 with q3; subst q3; trivial
    · intro k1 k2 b1 b2 e1 e2 l1 l2 q
      obtain ⟨i1, a1, p1, p2, p3⟩ := back k1 b1 e1
      obtain ⟨i2, a2, p4, p5, p6⟩ := back k2 b2 e2
      rw [(fwd i1 k1 p1).2.1, (fwd i2 k2 p4).2.1] at q
      have := i'.inj i1 i2 a1 a2 p2 p5 (live p3 l1) (live p6 l2) q
      subst this
      rw [p1] at p4; injection p4
    · intro k cs e o
      obtain ⟨i, a, p1, p2, p3⟩ := back k _ e
      rw [(fwd i k p1).2.1]
      cases a with
      | cells cs' => exact i'.sepc i cs' p2 o
      | tip sz n => simp [Blk.ren] at p3
      | absent => simp [Blk.ren] at p3
      | ghost => simp [Blk.ren] at p3
    · intro k sz n e hp o ho
      obtain ⟨i, a, p1, p2, p3⟩ := back k _ e
      rw [(fwd i k p1).2.1]
      exact i'.sept i sz n (by rw [p2, Blk.ren_tip p3]) hp o ho
  · have low : ∀ i, i < h.length → μ'' i = μ' i := fun i g => by simp [μ'', g]
    have lowt : ∀ i sz m, i < h.length → ((x ++ y)[i]? = some (.tip sz m) ↔ h'[i]? = some (.tip sz m)) := by
      intro i sz m g
      rw [List.getElem?_append_left (by omega)]
      constructor
      · intro q
        obtain ⟨a, q1, q2⟩ := hx2 i _ q
        rw [List.getElem?_take, if_pos g] at q1
        rw [q1, Blk.ren_tip q2]
      · intro q
        obtain ⟨b, q1, q2⟩ := hx3 i (.tip sz m) (by rw [List.getElem?_take, if_pos g]; exact q)
        simp only [Blk.ren] at q2; injection q2 with q2; subst q2; exact q1
    refine { sub := t.kp.sub, len := by simp; omega, keepc := fun i g q => (low i g).trans (t.kp.keepc i g q), keept := fun i sz n q => ?_, notip := fun i sz n g q => t.kp.notip i sz n g ((lowt i sz n g).1 q), noghost := fun i g q => t.kp.noghost i g (by
      rw [List.getElem?_append_left (by omega)] at q
      obtain ⟨a, q1, q2⟩ := hx2 i _ q
      rw [List.getElem?_take, if_pos g] at q1
      rw [q1, Blk.ren_ghost q2]) }
    obtain ⟨n', q1, q2, q3⟩ := t.kp.keept i sz n q
    have g := lt_of_get q
    exact ⟨n', (lowt i sz n' g).2 q1, q2, fun q4 => (low i g).trans (q3 q4)⟩
  · rintro b ⟨k, a, q1, q2, q3⟩
    obtain ⟨i, a', p1, p2, p3⟩ := back k a q1
    rw [(fwd i k p1).2.1] at q3
    exact t.own b ⟨i, a', p2, live p3 q2, q3⟩

/-- What need not be known of slots is forgotten. -/
def forget (keep : List Nat) : Nat → List V → List V
  | _, [] => []
  | i, v :: vs => (if keep.contains i then v else .d .undef) :: forget keep (i + 1) vs

theorem forget_rel {μ : Mu} {S : Stab} {h : List Blk} (keep : List Nat) : ∀ (i : Nat) (vs : List V) (xs : List Value), V.rels μ S h vs xs → V.rels μ S h (forget keep i vs) xs
  | _, [], _, r => r
  | i, v :: vs, _, ⟨x, ys, e, r1, r2⟩ => by
    refine ⟨x, ys, e, ?_, forget_rel keep (i + 1) vs ys r2⟩
    split
    · exact r1
    · trivial

/-! ### Values seen in a wider way -/

/-- A cell of a block, seen otherwise. -/
theorem tr_recell {μ : Mu} {S : Stab} {h : List Blk} {w : World} (i : Inv μ S h w) {k off : Nat} {cs : List V} {u x : V}
    (hk : h[k]? = some (.cells cs)) (hu : cs[off]? = some u) (hx : ∀ v, V.rel μ S h u v → V.rel μ S h x v) :
    Tr μ S h w μ S (h.set k (.cells (cs.set off x))) w := by
  obtain ⟨vals, el, hb, hvs, hcv⟩ := i.bl k _ hk
  have hK : Kp μ S h μ S (h.set k (.cells (cs.set off x))) := kp_set (Stab.le_refl S) hk (fun _ _ _ => rfl) (fun _ => ⟨rfl, rfl⟩) (fun _ _ q => by cases q)
  have live : ∀ {a : Nat} {y : Blk}, (h.set k (.cells (cs.set off x)))[a]? = some y → y.live → ∃ y', h[a]? = some y' ∧ y'.live := by
    intro a y ea hy
    rcases get_set ea with ⟨rfl, _, _⟩ | ⟨_, e1⟩
    · exact ⟨_, hk, trivial⟩
    · exact ⟨y, e1, hy⟩
  refine { inv := { st := i.st, bl := ?_, inj := ?_, sepc := ?_, sept := ?_ }, kp := hK, fresh := fun _ _ _ a b => by simp [a] at b, frame := fun _ _ _ => rfl, own := ?_, size := Nat.le_refl _, os := rfl, tape := rfl, output := rfl }
  · intro j y e
    rcases get_set e with ⟨rfl, _, rfl⟩ | ⟨hj, e1⟩
    · obtain ⟨v, e1, r1⟩ := V.rels_get off u hvs hu
      refine ⟨vals, el, hb, ?_, hcv⟩
      have := V.rels_set off x v hvs (hx v r1)
      rw [show vals.set off v = vals by
        apply List.ext_getElem?; intro q
        rw [List.getElem?_set]
        split
        · rename_i hq; subst hq; rw [if_pos (lt_of_get e1), e1]
        · rfl] at this
      exact V.rels_mono hK _ _ this
    · exact Blk.rel_mono hK rfl y (i.bl j y e1)
  · intro a b y z ea eb hy hz q
    obtain ⟨y', e1, l1⟩ := live ea hy
    obtain ⟨z', e2, l2⟩ := live eb hz
    exact i.inj a b y' z' e1 e2 l1 l2 q
  · intro j c e o
    rcases get_set e with ⟨rfl, _, _⟩ | ⟨_, e1⟩
    · exact i.sepc j cs hk o
    · exact i.sepc j c e1 o
  · intro j sz n e hp o ho
    rcases get_set e with ⟨rfl, _, e1⟩ | ⟨_, e1⟩
    · cases e1
    · exact i.sept j sz n e1 hp o ho
  · rintro b ⟨j, y, e, hl, rfl⟩
    obtain ⟨y', e1, l1⟩ := live e hl
    exact .inr ⟨j, y', e1, l1, rfl⟩

/-- How a slot, or a cell of a block, is seen otherwise: as a list that may grow, or as a firm one. -/
inductive Wd where
  | gs (slot sz : Nat)
  | lst (slot sz : Nat)
  | cgs (id off sz : Nat)
  | clst (id off sz : Nat)
  deriving Inhabited

/-- Nothing, and no room: it may be seen as a list that grows. -/
def noRoom : V → Bool
  | .d .nils | .d (.lst _ 0 [] true) => true
  | _ => false

def widV (sz : Nat) : V → V
  | .d .nils => .d (.lst sz 0 [] true)
  | .gs _ sz n cells => .d (.lst sz n cells false)
  | v => v

def wd1 (x : Wd) (ts : List V) (h : List Blk) : List V × List Blk := match x with
  | .gs i sz => match ts[i]? with
    | some v => if noRoom v then (ts.set i (.gs h.length sz 0 []), h ++ [.tip sz 0]) else (ts, h)
    | none => (ts, h)
  | .lst i sz => match ts[i]? with
    | some v => (ts.set i (widV sz v), h)
    | none => (ts, h)
  | .cgs id off sz => match h[id]? with
    | some (.cells cs) => match cs[off]? with
      | some v => if noRoom v then (ts, (h ++ [Blk.tip sz 0]).set id (.cells (cs.set off (.gs h.length sz 0 [])))) else (ts, h)
      | none => (ts, h)
    | _ => (ts, h)
  | .clst id off sz => match h[id]? with
    | some (.cells cs) => match cs[off]? with
      | some v => (ts, h.set id (.cells (cs.set off (widV sz v))))
      | none => (ts, h)
    | _ => (ts, h)

def wds : List Wd → List V → List Blk → List V × List Blk
  | [], ts, h => (ts, h)
  | x :: r, ts, h => wds r (wd1 x ts h).1 (wd1 x ts h).2

theorem noRoom_rel {μ : Mu} {S : Stab} {h : List Blk} {k sz : Nat} {v : V} {x : Value} (e : noRoom v = true) (hk : k < h.length) (r : V.rel μ S h v x) : V.rel μ S h (.gs k sz 0 []) x := by
  unfold noRoom at e
  split at e
  · exact ⟨hk, none, 0, r, Nat.le_refl _, by simp, .inl ⟨rfl, rfl⟩⟩
  · obtain ⟨base, cap, e1, _, h2, _, _⟩ := r
    obtain rfl := h2 rfl
    exact ⟨hk, base, 0, e1, Nat.le_refl _, by simp, .inl ⟨rfl, rfl⟩⟩
  · cases e

theorem widV_rel {μ : Mu} {S : Stab} {h : List Blk} {sz : Nat} {v : V} {x : Value} (r : V.rel μ S h v x) : V.rel μ S h (widV sz v) x := by
  unfold widV
  split
  · exact lst_zero (show x = .slice none 0 0 from r) rfl (by simp)
  · obtain ⟨_, base, cap, e1, q1, q2, q3⟩ := r
    exact gs_lst e1 q1 q2 q3
  · exact r

theorem rels_set_self {μ : Mu} {S : Stab} {h : List Blk} {ts : List V} {xs : List Value} {i : Nat} {v u : V} (r : V.rels μ S h ts xs) (hv : ts[i]? = some v)
    (hu : ∀ x, V.rel μ S h v x → V.rel μ S h u x) : V.rels μ S h (ts.set i u) xs := by
  obtain ⟨x, e, r1⟩ := V.rels_get i v r hv
  have := V.rels_set i u x r (hu x r1)
  rwa [show xs.set i x = xs by
    apply List.ext_getElem?; intro q
    rw [List.getElem?_set]
    split
    · rename_i hq; subst hq; rw [if_pos (lt_of_get e), e]
    · rfl] at this

theorem wd1_ok {μ : Mu} {S : Stab} {h : List Blk} {w : World} {ts : List V} {xs : List Value} (x : Wd) (i : Inv μ S h w) (r : V.rels μ S h ts xs) :
    Tr μ S h w μ S (wd1 x ts h).2 w ∧ V.rels μ S (wd1 x ts h).2 (wd1 x ts h).1 xs := by
  have same : Tr μ S h w μ S h w ∧ V.rels μ S h ts xs := ⟨Tr.refl i, r⟩
  cases x with
  | gs k sz =>
    simp only [wd1]
    split
    · rename_i v hv
      split
      · rename_i hn
        have t := tr_ghost i sz
        exact ⟨t, rels_set_self (V.rels_mono t.kp _ _ r) hv (fun x q => noRoom_rel hn (by simp) q)⟩
      · exact same
    · exact same
  | lst k sz =>
    simp only [wd1]
    split
    · rename_i v hv
      exact ⟨Tr.refl i, rels_set_self r hv (fun x q => widV_rel q)⟩
    · exact same
  | cgs id off sz =>
    simp only [wd1]
    split
    · rename_i cs hcs
      split
      · rename_i v hv
        split
        · rename_i hn
          have t := tr_ghost i sz
          have hcs' : (h ++ [Blk.tip sz 0])[id]? = some (.cells cs) := by rw [List.getElem?_append_left (lt_of_get hcs)]; exact hcs
          have t2 := tr_recell (x := .gs h.length sz 0 []) t.inv hcs' hv (fun x q => noRoom_rel hn (by simp) q)
          exact ⟨t.trans t2, V.rels_mono (t.trans t2).kp _ _ r⟩
        · exact same
      · exact same
    · exact same
  | clst id off sz =>
    simp only [wd1]
    split
    · rename_i cs hcs
      split
      · rename_i v hv
        have t2 := tr_recell (x := widV sz v) i hcs hv (fun x q => widV_rel q)
        exact ⟨t2, V.rels_mono t2.kp _ _ r⟩
      · exact same
    · exact same

theorem wds_ok {μ : Mu} {S : Stab} {w : World} {xs : List Value} : ∀ (l : List Wd) {h : List Blk} {ts : List V}, Inv μ S h w → V.rels μ S h ts xs →
    Tr μ S h w μ S (wds l ts h).2 w ∧ V.rels μ S (wds l ts h).2 (wds l ts h).1 xs
  | [], h, ts, i, r => ⟨Tr.refl i, r⟩
  | x :: l, h, ts, i, r => by
    obtain ⟨t, r1⟩ := wd1_ok x i r
    obtain ⟨t2, r2⟩ := wds_ok l t.inv r1
    exact ⟨t.trans t2, r2⟩

end Go.Ev
