/- Runs with continuations: of unknown numbers and lists the kernel computes a function of plain data. Single operations. -/
import Derived.Test.YtgkjmdbjncnlpaaDoorEvX
namespace Go.Ev
set_option linter.unusedVariables false
set_option linter.unusedSimpArgs false

/-- Blocks, of which some hold plain data only. -/
inductive KB where
  | cells (cs : List V)
  | dat (cs : List D)
  | tip (sz n : Nat)
  | absent
  | ghost
  deriving Inhabited

def KB.raw : KB → Blk
  | .cells cs => .cells cs
  | .dat cs => .cells (cs.map .d)
  | .tip a b => .tip a b
  | .absent => .absent
  | .ghost => .ghost

abbrev raws (h : List KB) : List Blk := h.map KB.raw

section
variable {ρ : Type}

def ass (c : Bool) (k : Option ρ) : Option ρ := cond c k none

theorem ass_some {c : Bool} {k : Option ρ} {x : ρ} (h : ass c k = some x) : c = true ∧ k = some x := by
  cases c
  · cases h
  · exact ⟨rfl, h⟩

def gI (kd : IntKind) (d : D) (k : Int → Option ρ) : Option ρ := match d with
  | .int k' n => if k' = kd then k n else none
  | _ => none

def gB (d : D) (k : Bool → Option ρ) : Option ρ := match d with
  | .bool b => k b
  | _ => none

def gS (d : D) (k : List UInt8 → Option ρ) : Option ρ := match d with
  | .str l => k l
  | _ => none

def gL (sz : Nat) (d : D) (k : Nat → List D → Bool → Option ρ) : Option ρ := match d with
  | .lst sz' n cs ex => if sz' = sz then k n cs ex else none
  | _ => none

def gA (d : D) (k : List D → Option ρ) : Option ρ := match d with
  | .agg cs => k cs
  | _ => none

def gT (d : D) (k : List D → Option ρ) : Option ρ := match d with
  | .tup cs => k cs
  | _ => none

def gC (cs : List D) (k : D → List D → Option ρ) : Option ρ := match cs with
  | c :: r => k c r
  | [] => none

def gE (cs : List D) (k : Option ρ) : Option ρ := match cs with
  | [] => k
  | _ :: _ => none

/-- An interface: nil, or what it holds. -/
def gF (d : D) (k0 : Option ρ) (k : TypeId → D → Option ρ) : Option ρ := match d with
  | .nili => k0
  | .ifc t v => k t v
  | _ => none

def gU (l : List UInt8) (i : Nat) (k : UInt8 → Option ρ) : Option ρ := match l[i]? with
  | some b => k b
  | none => none

theorem gI_some {kd : IntKind} {d : D} {k : Int → Option ρ} {x : ρ} (h : gI kd d k = some x) : ∃ n, d = .int kd n ∧ k n = some x := by
  unfold gI at h
  split at h
  · split at h
    · rename_i e; subst e; exact ⟨_, rfl, h⟩
    · cases h
  · cases h

theorem gB_some {d : D} {k : Bool → Option ρ} {x : ρ} (h : gB d k = some x) : ∃ b, d = .bool b ∧ k b = some x := by
  unfold gB at h; split at h
  · exact ⟨_, rfl, h⟩
  · cases h

theorem gS_some {d : D} {k : List UInt8 → Option ρ} {x : ρ} (h : gS d k = some x) : ∃ b, d = .str b ∧ k b = some x := by
  unfold gS at h; split at h
  · exact ⟨_, rfl, h⟩
  · cases h

theorem gL_some {sz : Nat} {d : D} {k : Nat → List D → Bool → Option ρ} {x : ρ} (h : gL sz d k = some x) : ∃ n cs ex, d = .lst sz n cs ex ∧ k n cs ex = some x := by
  unfold gL at h; split at h
  · split at h
    · rename_i e; subst e; exact ⟨_, _, _, rfl, h⟩
    · cases h
  · cases h

theorem gA_some {d : D} {k : List D → Option ρ} {x : ρ} (h : gA d k = some x) : ∃ b, d = .agg b ∧ k b = some x := by
  unfold gA at h; split at h
  · exact ⟨_, rfl, h⟩
  · cases h

theorem gT_some {d : D} {k : List D → Option ρ} {x : ρ} (h : gT d k = some x) : ∃ b, d = .tup b ∧ k b = some x := by
  unfold gT at h; split at h
  · exact ⟨_, rfl, h⟩
  · cases h

theorem gC_some {cs : List D} {k : D → List D → Option ρ} {x : ρ} (h : gC cs k = some x) : ∃ c r, cs = c :: r ∧ k c r = some x := by
  unfold gC at h; split at h
  · exact ⟨_, _, rfl, h⟩
  · cases h

theorem gE_some {cs : List D} {k : Option ρ} {x : ρ} (h : gE cs k = some x) : cs = [] ∧ k = some x := by
  unfold gE at h; split at h
  · exact ⟨rfl, h⟩
  · cases h

theorem gF_some {d : D} {k0 : Option ρ} {k : TypeId → D → Option ρ} {x : ρ} (h : gF d k0 k = some x) : (d = .nili ∧ k0 = some x) ∨ ∃ t v, d = .ifc t v ∧ k t v = some x := by
  unfold gF at h; split at h
  · exact .inl ⟨rfl, h⟩
  · exact .inr ⟨_, _, rfl, h⟩
  · cases h

theorem gU_some {l : List UInt8} {i : Nat} {k : UInt8 → Option ρ} {x : ρ} (h : gU l i k = some x) : ∃ b, l[i]? = some b ∧ k b = some x := by
  unfold gU at h; split at h
  · exact ⟨_, by assumption, h⟩
  · cases h

/-- Shapes of cells. -/
inductive Sh where
  | any
  | bool
  | int (k : IntKind)
  | str
  | sl (sz : Nat)
  | err
  deriving Inhabited

/-- Shapes of values. -/
inductive SH where
  | no
  | leaf (s : Sh)
  | agg (l : List Sh)
  | tup (l : List SH)
  deriving Inhabited

def chkD (s : Sh) (d : D) (k : D → Option ρ) : Option ρ := match s with
  | .any => k d
  | .bool => gB d fun b => k (.bool b)
  | .int kd => gI kd d fun n => k (.int kd n)
  | .str => gS d fun l => k (.str l)
  | .sl sz => gL sz d fun n cs ex => k (.lst sz n cs ex)
  | .err => gF d (k .nili) fun t v => k (.ifc t v)

theorem chkD_some {s : Sh} {d : D} {k : D → Option ρ} {x : ρ} (h : chkD s d k = some x) : k d = some x := by
  cases s <;> simp only [chkD] at h
  · exact h
  · obtain ⟨_, rfl, h2⟩ := gB_some h; exact h2
  · obtain ⟨_, rfl, h2⟩ := gI_some h; exact h2
  · obtain ⟨_, rfl, h2⟩ := gS_some h; exact h2
  · obtain ⟨_, _, _, rfl, h2⟩ := gL_some h; exact h2
  · rcases gF_some h with ⟨rfl, h2⟩ | ⟨_, _, rfl, h2⟩ <;> exact h2

/-- The first cells of a row, by their shapes. -/
def rdL : List Sh → List D → (List D → Option ρ) → Option ρ
  | [], _, k => k []
  | s :: ss, cs, k => gC cs fun c r => chkD s c fun c' => rdL ss r fun r' => k (c' :: r')

theorem rdL_some : ∀ {ss : List Sh} {cs : List D} {k : List D → Option ρ} {x : ρ}, rdL ss cs k = some x → (cs.take ss.length).length = ss.length ∧ k (cs.take ss.length) = some x
  | [], cs, k, x, h => ⟨by simp, by simpa [rdL] using h⟩
  | s :: ss, cs, k, x, h => by
    simp only [rdL] at h
    obtain ⟨c, r, rfl, h0⟩ := gC_some h
    obtain ⟨h1, h2⟩ := rdL_some (chkD_some (k := fun c' => rdL ss r fun r' => k (c' :: r')) h0)
    exact ⟨by simpa using h1, by simpa using h2⟩

/-- All cells of a row, by their shapes. -/
def rdA : List Sh → List D → (List D → Option ρ) → Option ρ
  | [], cs, k => gE cs (k [])
  | s :: ss, cs, k => gC cs fun c r => chkD s c fun c' => rdA ss r fun r' => k (c' :: r')

theorem rdA_some : ∀ {ss : List Sh} {cs : List D} {k : List D → Option ρ} {x : ρ}, rdA ss cs k = some x → k cs = some x
  | [], cs, k, x, h => by
    simp only [rdA] at h
    obtain ⟨rfl, h0⟩ := gE_some h; exact h0
  | s :: ss, cs, k, x, h => by
    simp only [rdA] at h
    obtain ⟨c, r, rfl, h0⟩ := gC_some h
    exact rdA_some (k := fun r' => k (c :: r')) (chkD_some (k := fun c' => rdA ss r fun r' => k (c' :: r')) h0)

mutual
def chkS : SH → D → (D → Option ρ) → Option ρ
  | .no, d, k => k d
  | .leaf s, d, k => chkD s d k
  | .agg ss, d, k => gA d fun cs => rdA ss cs fun cs' => k (.agg cs')
  | .tup ss, d, k => gT d fun cs => chkSs ss cs fun cs' => k (.tup cs')
def chkSs : List SH → List D → (List D → Option ρ) → Option ρ
  | [], cs, k => gE cs (k [])
  | s :: ss, cs, k => gC cs fun c r => chkS s c fun c' => chkSs ss r fun r' => k (c' :: r')
end

mutual
theorem chkS_some : ∀ {s : SH} {d : D} {k : D → Option ρ} {x : ρ}, chkS s d k = some x → k d = some x
  | .no, d, k, x, h => by simpa only [chkS] using h
  | .leaf s, d, k, x, h => by simp only [chkS] at h; exact chkD_some h
  | .agg ss, d, k, x, h => by
    simp only [chkS] at h
    obtain ⟨cs, rfl, h0⟩ := gA_some h
    exact rdA_some (k := fun cs' => k (.agg cs')) h0
  | .tup ss, d, k, x, h => by
    simp only [chkS] at h
    obtain ⟨cs, rfl, h0⟩ := gT_some h
    exact chkSs_some (k := fun cs' => k (.tup cs')) h0
theorem chkSs_some : ∀ {ss : List SH} {cs : List D} {k : List D → Option ρ} {x : ρ}, chkSs ss cs k = some x → k cs = some x
  | [], cs, k, x, h => by
    simp only [chkSs] at h
    obtain ⟨rfl, h0⟩ := gE_some h; exact h0
  | s :: ss, cs, k, x, h => by
    simp only [chkSs] at h
    obtain ⟨c, r, rfl, h0⟩ := gC_some h
    exact chkSs_some (k := fun r' => k (c :: r')) (chkS_some (k := fun c' => chkSs ss r fun r' => k (c' :: r')) h0)
end

def SH.leafOf : SH → Sh
  | .leaf s => s
  | _ => .any

def SH.cellsOf : SH → List Sh
  | .agg l => l
  | .leaf s => [s]
  | _ => []

/-- Of a row of plain cells: one cell, or a struct. -/
def rdC (ag : Bool) (n : Nat) (sh : SH) (cs : List D) (k : V → Option ρ) : Option ρ :=
  match ag with
  | true => ass (n == sh.cellsOf.length) (rdL sh.cellsOf cs fun l => k (.d (.agg l)))
  | false => gC cs fun c _ => chkD sh.leafOf c fun c' => k (.d c')

theorem rdC_some {ag : Bool} {n : Nat} {sh : SH} {cs : List D} {k : V → Option ρ} {x : ρ} (h : rdC ag n sh cs k = some x) :
    ∃ v, (if ag then (if (cs.take n).length = n then some (V.d (.agg (cs.take n))) else none) else cs.head?.map .d) = some v ∧ k v = some x := by
  cases ag with
  | true =>
    simp only [rdC] at h
    obtain ⟨h0, h⟩ := ass_some h
    have h0 : n = sh.cellsOf.length := by simpa using h0
    obtain ⟨h1, h2⟩ := rdL_some h
    subst h0
    exact ⟨_, by simp only [if_true]; rw [if_pos h1], h2⟩
  | false =>
    simp only [rdC] at h
    obtain ⟨c, r, rfl, h0⟩ := gC_some h
    exact ⟨_, rfl, chkD_some (k := fun c' => k (.d c')) h0⟩

/-! ### Lists with continuations -/

def setK {α : Type} : List α → Nat → α → (List α → Option ρ) → Option ρ
  | [], _, _, k => k []
  | x :: xs, 0, v, k => k (v :: xs)
  | x :: xs, i + 1, v, k => setK xs i v fun ys => k (x :: ys)

theorem setK_eq {α : Type} : ∀ (l : List α) (i : Nat) (v : α) (k : List α → Option ρ), setK l i v k = k (l.set i v)
  | [], _, _, k => by simp [setK]
  | x :: xs, 0, v, k => by simp [setK]
  | x :: xs, i + 1, v, k => by simp [setK, setK_eq xs i v]

def snocK {α : Type} : List α → α → (List α → Option ρ) → Option ρ
  | [], v, k => k [v]
  | x :: xs, v, k => snocK xs v fun ys => k (x :: ys)

theorem snocK_eq {α : Type} : ∀ (l : List α) (v : α) (k : List α → Option ρ), snocK l v k = k (l ++ [v])
  | [], _, k => rfl
  | x :: xs, v, k => by simp [snocK, snocK_eq xs v]

/-! ### Operations -/

def vB (v : V) (k : Bool → Option ρ) : Option ρ := match v with
  | .d (.bool b) => k b
  | _ => none

theorem vB_some {v : V} {k : Bool → Option ρ} {x : ρ} (h : vB v k = some x) : ∃ b, v = .d (.bool b) ∧ k b = some x := by
  unfold vB at h; split at h
  · exact ⟨_, rfl, h⟩
  · cases h

def vI (v : V) (k : Int → Option ρ) : Option ρ := match v with
  | .d (.int _ n) => k n
  | _ => none

theorem vI_some {v : V} {k : Int → Option ρ} {x : ρ} (h : vI v k = some x) : ∃ kd n, v = .d (.int kd n) ∧ k n = some x := by
  unfold vI at h; split at h
  · exact ⟨_, _, rfl, h⟩
  · cases h

def loadK (ag : Bool) (n : Nat) (sh : SH) (h : List KB) (v : V) (k : V → Option ρ) : Option ρ := match v with
  | .ptr id off => match h[id]? with
    | some (.cells cs) => match ag with
      | true => ass (((cs.drop off).take n).length == n) (k (mkAgg ((cs.drop off).take n)))
      | false => match cs[off]? with | some v => k v | none => none
    | some (.dat cs) => rdC ag n sh (cs.drop off) k
    | _ => none
  | .d (.rp cells) => rdC ag n sh cells k
  | _ => none

theorem raws_get {h : List KB} {i : Nat} {b : KB} (e : h[i]? = some b) : (raws h)[i]? = some b.raw := by simp [raws, e]

theorem mkAgg_map' (l : List D) : mkAgg (l.map V.d) = .d (.agg l) := by
  have : allD (l.map V.d) = some l := by
    induction l with
    | nil => rfl
    | cons a l ih => simp [allD, ih]
  simp [mkAgg, this]

theorem loadK_some {ag : Bool} {n : Nat} {sh : SH} {h : List KB} {v : V} {k : V → Option ρ} {x : ρ} (e : loadK ag n sh h v k = some x) : ∃ u, loadV ag n (raws h) v = some u ∧ k u = some x := by
  unfold loadK at e
  split at e
  · rename_i id off
    split at e
    · rename_i cs hcs
      simp only [loadV, raws_get hcs, KB.raw]
      cases ag with
      | true =>
        simp only at e
        obtain ⟨h1, e⟩ := ass_some e
        exact ⟨_, by simp only [if_true]; rw [if_pos (by simpa using h1)], e⟩
      | false =>
        simp only at e
        split at e
        · rename_i u hu; exact ⟨u, by simpa using hu, e⟩
        · cases e
    · rename_i cs hcs
      simp only [loadV, raws_get hcs, KB.raw]
      obtain ⟨u, hu, e⟩ := rdC_some e
      refine ⟨u, ?_, e⟩
      rw [← hu]
      cases ag with
      | true =>
        simp only [if_true, ← List.map_drop, ← List.map_take, List.length_map, mkAgg_map']
      | false => simp
    · cases e
  · obtain ⟨u, hu, e⟩ := rdC_some e
    exact ⟨u, by simp only [loadV]; exact hu, e⟩
  · cases e

def spliceD (cs : List D) (off : Nat) : List D → List D
  | [] => cs
  | x :: xs => spliceD (cs.set off x) (off + 1) xs

theorem splice_map : ∀ (xs cs : List D) (off : Nat), splice (cs.map V.d) off (xs.map V.d) = (spliceD cs off xs).map V.d
  | [], cs, off => rfl
  | x :: xs, cs, off => by simp only [List.map_cons, splice, spliceD, ← List.map_set, splice_map xs]

theorem allD_eq' : ∀ {cs : List V} {ds : List D}, allD cs = some ds → cs = ds.map V.d
  | [], ds, h => by simp [allD] at h; subst h; rfl
  | .d x :: cs, ds, h => by
    simp only [allD, Option.map_eq_some_iff] at h
    obtain ⟨ds', h1, rfl⟩ := h
    simp [allD_eq' h1]
  | .ptr .. :: _, _, h => by simp [allD] at h
  | .gs .. :: _, _, h => by simp [allD] at h
  | .sl .. :: _, _, h => by simp [allD] at h
  | .agg .. :: _, _, h => by simp [allD] at h
  | .tup .. :: _, _, h => by simp [allD] at h
  | .fn .. :: _, _, h => by simp [allD] at h
  | .ifc .. :: _, _, h => by simp [allD] at h

def storeK (n : Nat) (h : List KB) (y v : V) (k : List KB → Option ρ) : Option ρ := match v with
  | .ptr id off => match h[id]?, y.cellsOf with
    | some (.cells cs), some c => ass (c.length == n && decide (off + n ≤ cs.length)) (setK h id (.cells (splice cs off c)) k)
    | some (.dat cs), some c => match allD c with
      | some ds => ass (ds.length == n && decide (off + n ≤ cs.length)) (setK h id (.dat (spliceD cs off ds)) k)
      | none => none
    | _, _ => none
  | _ => none

theorem storeK_some {n : Nat} {h : List KB} {y v : V} {k : List KB → Option ρ} {x : ρ} (e : storeK n h y v k = some x) : ∃ h', storeV n (raws h) y v = some (raws h') ∧ k h' = some x := by
  unfold storeK at e
  split at e
  · rename_i id off
    split at e
    · rename_i cs c hcs hc
      obtain ⟨h1, e⟩ := ass_some e
      simp only [Bool.and_eq_true, beq_iff_eq, decide_eq_true_eq] at h1
      rw [setK_eq] at e
      exact ⟨_, by simp [storeV, raws_get hcs, KB.raw, hc, h1, raws], e⟩
    · rename_i cs c hcs hc
      split at e
      · rename_i ds hds
        obtain ⟨h1, e⟩ := ass_some e
        simp only [Bool.and_eq_true, beq_iff_eq, decide_eq_true_eq] at h1
        rw [setK_eq] at e
        obtain rfl := allD_eq' hds
        refine ⟨_, ?_, e⟩
        simp only [storeV, raws_get hcs, KB.raw, hc, List.length_map, h1, and_self, if_true, splice_map]
        simp [raws, KB.raw]
      · cases e
    · cases e
  · cases e

def bndK (o : Option Int) (d : Option Nat) (y : Nat) (k : Nat → Option ρ) : Option ρ :=
  match o with
  | some z => ass (decide (0 ≤ z) && decide (z ≤ y)) (k z.toNat)
  | none => match d with
    | some v => k v
    | none => none

theorem bndK_some {o : Option Int} {d : Option Nat} {y : Nat} {k : Nat → Option ρ} {x : ρ} (e : bndK o d y k = some x) : ∃ m, bnd o d y = some m ∧ k m = some x := by
  cases o with
  | none =>
    cases d with
    | none => cases e
    | some v => exact ⟨v, rfl, e⟩
  | some z =>
    simp only [bndK] at e
    obtain ⟨h1, e⟩ := ass_some e
    simp only [Bool.and_eq_true, decide_eq_true_eq] at h1
    exact ⟨_, by simp [bnd, h1], e⟩

/-- Bounds of a slice expression; with a max, or within the room. -/
def bndsK (fit : Bool) (len cap : Nat) (lo hi mx : Option Int) (k : Nat → Nat → Nat → Option ρ) : Option ρ :=
  bndK mx (some cap) cap fun m => bndK hi (if mx.isSome then none else if fit then some len else none) m fun h => bndK lo (some 0) h fun l => k l h m

theorem bndsK_some {fit : Bool} {len cap : Nat} {lo hi mx : Option Int} {k : Nat → Nat → Nat → Option ρ} {x : ρ} (hf : fit = true → len ≤ cap) (e : bndsK fit len cap lo hi mx k = some x) :
    ∃ l u m, bnds len cap lo hi mx = some (l, u, m) ∧ k l u m = some x := by
  unfold bndsK at e
  obtain ⟨m, h1, e⟩ := bndK_some e
  obtain ⟨u, h2, e⟩ := bndK_some e
  obtain ⟨l, h3, e⟩ := bndK_some e
  refine ⟨l, u, m, ?_, e⟩
  have h2' : bnd hi (if mx.isSome ∨ ¬ len ≤ cap then none else some len) m = some u := by
    cases hi with
    | some z => exact h2
    | none =>
      simp only [bnd] at h2 ⊢
      cases hm : mx.isSome with
      | true => simp [hm] at h2
      | false =>
        cases fit with
        | false => simp [hm] at h2
        | true => simp [hm] at h2; subst h2; simp [hf rfl]
  simp only [bnds, h1, h2', h3]

def optK (ev : RX → V) (o : Option RX) (k : Option Int → Option ρ) : Option ρ := match o with
  | none => k none
  | some x => vI (ev x) fun n => k (some n)

theorem optK_some {ev : RX → V} {o : Option RX} {k : Option Int → Option ρ} {x : ρ} (e : optK ev o k = some x) : ∃ z, optInt ev o = some z ∧ k z = some x := by
  cases o with
  | none => exact ⟨none, rfl, e⟩
  | some r =>
    simp only [optK] at e
    obtain ⟨kd, n, h1, e⟩ := vI_some e
    exact ⟨some n, by simp [optInt, h1, V.int?], e⟩

def slLK (sz n : Nat) (cells : List D) (ex : Bool) (lo hi mx : Option Int) (k : V → Option ρ) : Option ρ :=
  bndsK true n n lo hi mx fun l h m => k (.d (.lst sz (h - l) ((cells.drop (l * sz)).take ((h - l) * sz)) (if mx.isSome then m == h else ex && h == n)))

def slK (sz : Nat) (lo hi mx : Option Int) (v : V) (k : V → Option ρ) : Option ρ := match v with
  | .d (.lst sz' n cells ex) => ass (sz' == sz) (slLK sz n cells ex lo hi mx k)
  | .gs _ sz' n cells => ass (sz' == sz) (slLK sz n cells false lo hi mx k)
  | .sl id off sz' n cap => ass (sz' == sz) (match hi, mx with
    | none, none => ass (decide (n ≤ cap)) (bndsK true n cap lo none none fun l h m => k (.sl id (if m = l then off else off + l * sz) sz (h - l) (m - l)))
    | none, some _ => none
    | some z, mx => bndsK false n cap lo (some z) mx fun l h m => k (.sl id (if m = l then off else off + l * sz) sz (h - l) (m - l)))
  | _ => none

theorem slLK_some {sz n : Nat} {cells : List D} {ex : Bool} {lo hi mx : Option Int} {k : V → Option ρ} {x : ρ} (e : slLK sz n cells ex lo hi mx k = some x) : ∃ v, slLst sz n cells ex lo hi mx = some v ∧ k v = some x := by
  unfold slLK at e
  obtain ⟨l, u, m, h1, e⟩ := bndsK_some (fun _ => Nat.le_refl n) e
  exact ⟨_, by simp only [slLst, h1], e⟩

theorem slK_some {sz : Nat} {lo hi mx : Option Int} {v : V} {k : V → Option ρ} {x : ρ} (e : slK sz lo hi mx v k = some x) : ∃ u, slV sz lo hi mx v = some u ∧ k u = some x := by
  unfold slK at e
  split at e
  · obtain ⟨h1, e⟩ := ass_some e
    obtain ⟨u, h2, e⟩ := slLK_some e
    exact ⟨u, by simp only [slV]; rw [if_pos (by simpa using h1)]; exact h2, e⟩
  · obtain ⟨h1, e⟩ := ass_some e
    obtain ⟨u, h2, e⟩ := slLK_some e
    exact ⟨u, by simp only [slV]; rw [if_pos (by simpa using h1)]; exact h2, e⟩
  · obtain ⟨h1, e⟩ := ass_some e
    simp only [beq_iff_eq] at h1
    split at e
    · obtain ⟨h2, e⟩ := ass_some e
      obtain ⟨l, u, m, h3, e⟩ := bndsK_some (fun _ => by simpa using h2) e
      exact ⟨_, by simp only [slV]; rw [if_pos h1, h3], e⟩
    · cases e
    · obtain ⟨l, u, m, h3, e⟩ := bndsK_some (fun h => by cases h) e
      exact ⟨_, by simp only [slV]; rw [if_pos h1, h3], e⟩
  · cases e

def slAK (len sz : Nat) (lo hi mx : Option Int) (v : V) (k : V → Option ρ) : Option ρ := match v with
  | .ptr id off => bndsK true len len lo hi mx fun l h m => k (.sl id (if m = l then off else off + l * sz) sz (h - l) (m - l))
  | _ => none

theorem slAK_some {len sz : Nat} {lo hi mx : Option Int} {v : V} {k : V → Option ρ} {x : ρ} (e : slAK len sz lo hi mx v k = some x) : ∃ u, slA len sz lo hi mx v = some u ∧ k u = some x := by
  unfold slAK at e
  split at e
  · obtain ⟨l, u, m, h1, e⟩ := bndsK_some (fun _ => Nat.le_refl len) e
    exact ⟨_, by simp only [slA, h1], e⟩
  · cases e

def iadrK (sz : Nat) (i : Int) (v : V) (k : V → Option ρ) : Option ρ := match v with
  | .d (.lst sz' n cells _) => ass (sz' == sz) (ass (decide (0 ≤ i) && decide (i < n)) (k (.d (.rp (cells.drop (i.toNat * sz))))))
  | .gs _ sz' n cells => ass (sz' == sz) (ass (decide (0 ≤ i) && decide (i < n)) (k (.d (.rp (cells.drop (i.toNat * sz))))))
  | .sl id off sz' n _ => ass (sz' == sz) (ass (decide (0 ≤ i) && decide (i < n)) (k (.ptr id (off + i.toNat * sz))))
  | _ => none

theorem iadrK_some {sz : Nat} {i : Int} {v : V} {k : V → Option ρ} {x : ρ} (e : iadrK sz i v k = some x) : ∃ u, iadrV sz i v = some u ∧ k u = some x := by
  unfold iadrK at e
  split at e
  case h_4 => cases e
  all_goals
    obtain ⟨h1, e⟩ := ass_some e
    obtain ⟨h2, e⟩ := ass_some e
    simp only [Bool.and_eq_true, decide_eq_true_eq, beq_iff_eq] at h1 h2
    exact ⟨_, by simp only [iadrV]; rw [if_pos ⟨h1, h2.1, h2.2⟩], e⟩

def fadrK (off : Nat) (v : V) (k : V → Option ρ) : Option ρ := match v with
  | .ptr id o => k (.ptr id (o + off))
  | .d (.rp cells) => k (.d (.rp (cells.drop off)))
  | _ => none

theorem fadrK_some {off : Nat} {v : V} {k : V → Option ρ} {x : ρ} (e : fadrK off v k = some x) : ∃ u, fadrV off v = some u ∧ k u = some x := by
  unfold fadrK at e
  split at e
  · exact ⟨_, rfl, e⟩
  · exact ⟨_, rfl, e⟩
  · cases e

/-- An element of an array that is a value. -/
def idxK (ag : Bool) (sz : Nat) (sh : SH) (n : Int) (v : V) (k : V → Option ρ) : Option ρ := match v with
  | .d (.agg cs) => rdC ag sz sh (cs.drop (n.toNat * sz)) k
  | .agg cs => match partV ag (n.toNat * sz) sz cs with | some u => k u | none => none
  | _ => none

theorem idxK_some {ag : Bool} {sz : Nat} {sh : SH} {n : Int} {v : V} {k : V → Option ρ} {x : ρ} (e : idxK ag sz sh n v k = some x) : ∃ u, fldV ag (n.toNat * sz) sz v = some u ∧ k u = some x := by
  unfold idxK at e
  split at e
  · obtain ⟨u, h1, e⟩ := rdC_some e
    refine ⟨u, ?_, e⟩
    rw [← h1]
    cases ag <;> simp [fldV, partD]
  · split at e
    · exact ⟨_, by simp only [fldV]; assumption, e⟩
    · cases e
  · cases e

def leafK (kk : LK) (x y : D) (k : Bool → Option ρ) : Option ρ := match kk with
  | .i => match x, y with
    | .int k1 a, .int k2 b => ass (k1 == k2) (k (a == b))
    | _, _ => none
  | .s => match x, y with
    | .str a, .str b => k (a == b)
    | _, _ => none
  | .b => match x, y with
    | .bool a, .bool b => k (a == b)
    | _, _ => none

theorem leafK_some {kk : LK} {a b : D} {k : Bool → Option ρ} {x : ρ} (e : leafK kk a b k = some x) : ∃ t, leafEq kk a b = some t ∧ k t = some x := by
  cases kk <;> simp only [leafK] at e
  · split at e
    · exact ⟨_, rfl, e⟩
    · cases e
  · split at e
    · obtain ⟨h1, e⟩ := ass_some e
      exact ⟨_, by simp only [leafEq]; rw [if_pos (by simpa using h1)], e⟩
    · cases e
  · split at e
    · exact ⟨_, rfl, e⟩
    · cases e

def planK (xs ys : List D) : List (Nat × LK) → (Bool → Option ρ) → Option ρ
  | [], k => k true
  | (i, kk) :: r, k => match xs[i]?, ys[i]? with
    | some x, some y => leafK kk x y fun b => planK xs ys r fun c => k (b && c)
    | _, _ => none

theorem planK_some {xs ys : List D} : ∀ {p : List (Nat × LK)} {k : Bool → Option ρ} {x : ρ}, planK xs ys p k = some x → ∃ t, planEq xs ys p = some t ∧ k t = some x
  | [], k, x, e => ⟨true, rfl, e⟩
  | (i, kk) :: r, k, x, e => by
    simp only [planK] at e
    split at e
    · rename_i a b h1 h2
      obtain ⟨t, h3, e⟩ := leafK_some e
      obtain ⟨u, h4, e⟩ := planK_some e
      refine ⟨t && u, ?_, e⟩
      simp only [planEq, h1, h2, h3]
      cases t with
      | true => simpa using h4
      | false => rfl
    · cases e

def eqsK (plan : List (Nat × LK)) (x y : V) (k : Bool → Option ρ) : Option ρ := match x, y with
  | .d (.agg a), .d (.agg b) => planK a b plan k
  | _, _ => none

theorem eqsK_some {plan : List (Nat × LK)} {a b : V} {k : Bool → Option ρ} {x : ρ} (e : eqsK plan a b k = some x) : ∃ t, eqsV plan a b = some t ∧ k t = some x := by
  unfold eqsK at e
  split at e
  · obtain ⟨t, h, e⟩ := planK_some e
    exact ⟨t, h, e⟩
  · cases e

def nilK (kk : NK) (v : V) (k : Bool → Option ρ) : Option ρ := match v with
  | .d (.lst sz n cs ex) => match kk with
    | .sl => ass (!(n == 0)) (k false)
    | _ => none
  | .gs id sz n cs => match kk with
    | .sl => ass (!(n == 0)) (k false)
    | _ => none
  | v => match isNilK kk v with
    | some b => k b
    | none => none

theorem nilK_some {kk : NK} {v : V} {k : Bool → Option ρ} {x : ρ} (e : nilK kk v k = some x) : ∃ t, isNilK kk v = some t ∧ k t = some x := by
  unfold nilK at e
  split at e
  · split at e
    · obtain ⟨h1, e⟩ := ass_some e
      exact ⟨_, by simp only [isNilK]; rw [if_neg (by simpa using h1)], e⟩
    · cases e
  · split at e
    · obtain ⟨h1, e⟩ := ass_some e
      exact ⟨_, by simp only [isNilK]; rw [if_neg (by simpa using h1)], e⟩
    · cases e
  · split at e
    · exact ⟨_, by assumption, e⟩
    · cases e

/-- Does a string of so many bytes fit? -/
def fitsS (n : Nat) : Bool := decide (n ≤ 9223372036854775807)

def binK (op : BinOp) (a b : D) (k : D → Option ρ) : Option ρ := match a, b with
  | .int ka x, .int kb y => match op with
    | .shl => ass (decide (0 ≤ y)) (k (.int ka (ka.wrap (x * 2 ^ (min y.toNat ka.bits)))))
    | .shr => ass (decide (0 ≤ y)) (k (.int ka (x.fdiv (2 ^ (min y.toNat ka.bits)))))
    | .quo => ass (ka == kb) (ass (!(y == 0)) (k (.int ka (ka.wrap (x.tdiv y)))))
    | .rem => ass (ka == kb) (ass (!(y == 0)) (k (.int ka (x.tmod y))))
    | op => match binD op a b with | some c => k c | none => none
  | .str x, .str y => match op with
    | .add => ass (fitsS (x.length + y.length)) (k (.str (x ++ y)))
    | op => match binD op a b with | some c => k c | none => none
  | _, _ => none

theorem binK_some {op : BinOp} {a b : D} {k : D → Option ρ} {x : ρ} (e : binK op a b k = some x) : ∃ t, binD op a b = some t ∧ k t = some x := by
  unfold binK at e
  split at e
  · split at e
    · obtain ⟨h1, e⟩ := ass_some e
      simp only [decide_eq_true_eq] at h1
      exact ⟨_, by simp only [binD]; rw [if_neg (by omega)], e⟩
    · obtain ⟨h1, e⟩ := ass_some e
      simp only [decide_eq_true_eq] at h1
      exact ⟨_, by simp only [binD]; rw [if_neg (by omega)], e⟩
    · obtain ⟨h0, e⟩ := ass_some e
      obtain ⟨h1, e⟩ := ass_some e
      exact ⟨_, by simp only [binD]; rw [if_pos (by simpa using h0), if_neg (by simpa using h1)], e⟩
    · obtain ⟨h0, e⟩ := ass_some e
      obtain ⟨h1, e⟩ := ass_some e
      exact ⟨_, by simp only [binD]; rw [if_pos (by simpa using h0), if_neg (by simpa using h1)], e⟩
    · split at e
      · exact ⟨_, by assumption, e⟩
      · cases e
  · split at e
    · obtain ⟨h1, e⟩ := ass_some e
      exact ⟨_, by simp only [binD]; rw [if_pos (by simp only [fitsS, decide_eq_true_eq] at h1; omega)], e⟩
    · split at e
      · exact ⟨_, by assumption, e⟩
      · cases e
  · cases e

/-- The bytes of plain cells. -/
def bytesK : List D → (List UInt8 → Option ρ) → Option ρ
  | [], k => k []
  | d :: r, k => gI .u8 d fun n => ass (decide (0 ≤ n) && decide (n < 256)) (bytesK r fun l => k (UInt8.ofNat n.toNat :: l))

theorem bytesK_some : ∀ {cs : List D} {k : List UInt8 → Option ρ} {x : ρ}, bytesK cs k = some x → ∃ l, bytesOf cs = some l ∧ k l = some x
  | [], k, x, e => ⟨[], rfl, e⟩
  | d :: r, k, x, e => by
    simp only [bytesK] at e
    obtain ⟨n, rfl, e⟩ := gI_some e
    obtain ⟨h1, e⟩ := ass_some e
    simp only [Bool.and_eq_true, decide_eq_true_eq] at h1
    obtain ⟨l, h2, e⟩ := bytesK_some e
    exact ⟨_, by simp only [bytesOf]; rw [if_pos h1, h2]; rfl, e⟩

def lsK (v : V) (k : Nat → List D → Option ρ) : Option ρ := match v with
  | .d (.str l) => k l.length (bytesD l)
  | .d (.lst _ n cells _) => k n cells
  | .gs _ _ n cells => k n cells
  | .d .nils => k 0 []
  | _ => none

def appK (sz bytes : Nat) (h : List KB) (x : V) (m : Nat) (ys : List D) (k : V → List KB → Option ρ) : Option ρ :=
  ass (ys.all cellD && ys.length == m * sz) (match x with
  | .d .nils => ass ((decide (m * bytes ≤ 140737488355328) && decide (m ≤ 9223372036854775807))) (snocK h (.tip sz m) fun h' => k (.gs h.length sz m ys) h')
  | .d (.lst sz' n cells ex) => ass (sz' == sz && ex) (ass ((n == 0 || !(m == 0)) && (decide ((n + m) * bytes ≤ 140737488355328) && decide (n + m ≤ 9223372036854775807)))
      (snocK h (.tip sz (n + m)) fun h' => k (.gs h.length sz (n + m) (cells ++ ys)) h'))
  | .gs id sz' n cells => match h[id]? with
    | some (.tip sz'' n') => ass (sz' == sz && sz'' == sz) (ass (n' == n && (decide ((n + m) * bytes ≤ 140737488355328) && decide (n + m ≤ 9223372036854775807)))
        (setK h id (.tip sz (n + m)) fun h' => k (.gs id sz (n + m) (cells ++ ys)) h'))
    | _ => none
  | _ => none)

theorem appK_some {sz bytes : Nat} {h : List KB} {v : V} {m : Nat} {ys : List D} {k : V → List KB → Option ρ} {x : ρ} (e : appK sz bytes h v m ys k = some x) :
    ∃ u h', appV sz bytes (raws h) v m ys = some (u, raws h') ∧ k u h' = some x := by
  unfold appK at e
  obtain ⟨h0, e⟩ := ass_some e
  simp only [Bool.and_eq_true, beq_iff_eq] at h0
  have hc : ¬ (ys.all cellD = false ∨ ys.length ≠ m * sz) := by simp [h0]
  split at e
  · obtain ⟨h1, e⟩ := ass_some e
    simp only [Bool.and_eq_true, decide_eq_true_eq] at h1
    rw [snocK_eq] at e
    refine ⟨_, _, ?_, e⟩
    simp only [appV]
    rw [if_neg hc, if_pos h1]
    simp [raws, KB.raw]
  · obtain ⟨h1, e⟩ := ass_some e
    obtain ⟨h2, e⟩ := ass_some e
    simp only [Bool.and_eq_true, Bool.or_eq_true, decide_eq_true_eq, Bool.not_eq_true', beq_eq_false_iff_ne, beq_iff_eq] at h1 h2
    rw [snocK_eq] at e
    refine ⟨_, _, ?_, e⟩
    simp only [appV]
    rw [if_neg hc, if_pos h1, if_neg (by rintro ⟨q1, q2⟩; rcases h2.1 with q | q <;> contradiction), if_pos h2.2]
    simp [raws, KB.raw]
  · split at e
    · rename_i hid
      obtain ⟨h1, e⟩ := ass_some e
      obtain ⟨h2, e⟩ := ass_some e
      simp only [Bool.and_eq_true, decide_eq_true_eq, beq_iff_eq] at h1 h2
      rw [setK_eq] at e
      refine ⟨_, _, ?_, e⟩
      simp only [appV]
      rw [if_neg hc]
      simp only [raws_get hid, KB.raw]
      rw [if_pos ⟨h1.1, h1.2, h2.1, h2.2.1, h2.2.2⟩]
      simp [raws, KB.raw]
    · cases e
  · cases e

end
end Go.Ev
