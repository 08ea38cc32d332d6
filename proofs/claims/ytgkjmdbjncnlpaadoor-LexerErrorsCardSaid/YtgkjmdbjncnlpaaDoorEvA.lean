/- Abstract values, abstract memory, and what they say of the machine's own values and memory. -/
import Derived.Calls
import Derived.Defers
import Derived.Below
namespace Go.Ev

/-- Plain data: whatever it stands for in memory never changes. -/
inductive D where
  | bool (b : Bool)
  | int (k : IntKind) (n : Int)
  | str (l : List UInt8)
  | nilp | nils | nilm | nilf | nili
  | lst (sz n : Nat) (cells : List D) (ex : Bool)
  | rp (cells : List D)
  | agg (cells : List D)
  | tup (vs : List D)
  | fn (f : FuncId) (first cap : List D)
  | ifc (t : TypeId) (v : D)
  | undef
  deriving Inhabited

/-- Values of a run: plain data, and what names a block of the abstract memory. -/
inductive V where
  | d (x : D)
  | ptr (id off : Nat)
  | gs (id sz n : Nat) (cells : List D)
  | sl (id off sz n cap : Nat)
  | agg (cells : List V)
  | tup (vs : List V)
  | fn (f : FuncId) (first cap : List V)
  | ifc (t : TypeId) (v : V)
  deriving Inhabited

inductive Blk where
  | cells (cs : List V)
  | tip (sz n : Nat)
  | absent
  | ghost
  deriving Inhabited

abbrev Stab := Nat → Nat → Option Value

def cellVal : Value → Prop
  | .agg _ | .tuple _ => False
  | _ => True

mutual
def D.rel (S : Stab) : D → Value → Prop
  | .bool b, v => v = .bool b
  | .int k n, v => v = .int k n
  | .str l, v => v = .string ⟨l.toArray⟩
  | .nilp, v => v = .pointer none
  | .nils, v => v = .slice none 0 0
  | .nilm, v => v = .map none
  | .nilf, v => v = .nilFunc
  | .nili, v => v = .nilIface
  | .lst sz n cells ex, v => ∃ base cap, v = .slice base n cap ∧ n ≤ cap ∧ (ex = true → cap = n) ∧ cells.length = n * sz ∧
      ((base = none ∧ cap = 0) ∨ ∃ b o sp, base = some ⟨b, o, sp⟩ ∧ D.relAt S cells b o ∧ (0 < cap → sp = none))
  | .rp cells, v => ∃ b o, v = .pointer (some ⟨b, o, none⟩) ∧ D.relAt S cells b o
  | .agg cells, v => ∃ vs : List Value, v = .agg vs.toArray ∧ D.rels S cells vs
  | .tup cells, v => ∃ vs : List Value, v = .tuple vs.toArray ∧ D.rels S cells vs
  | .fn f first cap, v => ∃ a b : List Value, v = .func (.func f) a.toArray b.toArray ∧ D.rels S first a ∧ D.rels S cap b
  | .ifc t x, v => ∃ u, v = .iface t u ∧ D.rel S x u
  | .undef, _ => True
def D.rels (S : Stab) : List D → List Value → Prop
  | [], vs => vs = []
  | d :: ds, vs => ∃ v ws, vs = v :: ws ∧ D.rel S d v ∧ D.rels S ds ws
def D.relAt (S : Stab) : List D → Nat → Nat → Prop
  | [], _, _ => True
  | d :: ds, b, o => (∃ v, S b o = some v ∧ D.rel S d v) ∧ D.relAt S ds b (o + 1)
end

def Stab.le (S S' : Stab) : Prop := ∀ b o v, S b o = some v → S' b o = some v

theorem Stab.le_refl (S : Stab) : S.le S := fun _ _ _ h => h
theorem Stab.le_trans {S S' S'' : Stab} (h : S.le S') (h' : S'.le S'') : S.le S'' := fun b o v k => h' b o v (h b o v k)

mutual
theorem D.rel_mono {S S' : Stab} (h : S.le S') : ∀ (d : D) (v : Value), D.rel S d v → D.rel S' d v
  | .bool _, _, r | .int _ _, _, r | .str _, _, r | .nilp, _, r | .nils, _, r | .nilm, _, r | .nilf, _, r | .nili, _, r | .undef, _, r => r
  | .lst _ _ cells _, _, ⟨base, cap, e, h1, h2, h3, r⟩ => ⟨base, cap, e, h1, h2, h3, r.imp_right fun ⟨b, o, sp, e, r, h4⟩ => ⟨b, o, sp, e, D.relAt_mono h cells b o r, h4⟩⟩
  | .rp cells, _, ⟨b, o, e, r⟩ => ⟨b, o, e, D.relAt_mono h cells b o r⟩
  | .agg cells, _, ⟨vs, e, r⟩ => ⟨vs, e, D.rels_mono h cells vs r⟩
  | .tup cells, _, ⟨vs, e, r⟩ => ⟨vs, e, D.rels_mono h cells vs r⟩
  | .fn _ first cap, _, ⟨a, b, e, r, r'⟩ => ⟨a, b, e, D.rels_mono h first a r, D.rels_mono h cap b r'⟩
  | .ifc _ x, _, ⟨u, e, r⟩ => ⟨u, e, D.rel_mono h x u r⟩
theorem D.rels_mono {S S' : Stab} (h : S.le S') : ∀ (ds : List D) (vs : List Value), D.rels S ds vs → D.rels S' ds vs
  | [], _, r => r
  | d :: ds, _, ⟨v, ws, e, r, r'⟩ => ⟨v, ws, e, D.rel_mono h d v r, D.rels_mono h ds ws r'⟩
theorem D.relAt_mono {S S' : Stab} (h : S.le S') : ∀ (ds : List D) (b o : Nat), D.relAt S ds b o → D.relAt S' ds b o
  | [], _, _, _ => trivial
  | d :: ds, b, o, ⟨⟨v, e, r⟩, r'⟩ => ⟨⟨v, h b o v e, D.rel_mono h d v r⟩, D.relAt_mono h ds b (o + 1) r'⟩
end

/-- Where a block of the abstract memory lies. -/
structure Pl where
  blk : Nat
  cap : Nat
  deriving Inhabited

abbrev Mu := Nat → Pl

/-- Does a block stay where it is? Rows of growing lists move; ghosts are not there yet. -/
def Blk.fixed : Blk → Bool
  | .tip _ _ | .ghost => false
  | _ => true

abbrev Fix (b : Option Blk) : Prop := ∀ x, b = some x → x.fixed = true

mutual
def V.rel (μ : Mu) (S : Stab) (h : List Blk) : V → Value → Prop
  | .d x, v => D.rel S x v
  | .ptr id off, v => id < h.length ∧ Fix h[id]? ∧ v = .pointer (some ⟨(μ id).blk, off, none⟩)
  | .gs id sz n cells, v => id < h.length ∧ ∃ base cap, v = .slice base n cap ∧ n ≤ cap ∧ cells.length = n * sz ∧ ((n = 0 ∧ cap = 0) ∨ 0 < n ∧ ∃ b, base = some ⟨b, 0, none⟩ ∧ D.relAt S cells b 0 ∧
      (∀ m, h[id]? = some (.tip sz m) → n ≤ m ∧ (m = n → b = (μ id).blk ∧ cap = (μ id).cap)))
  | .sl id off _ n cap, v => id < h.length ∧ Fix h[id]? ∧ n ≤ cap ∧ v = .slice (some ⟨(μ id).blk, off, none⟩) n cap
  | .agg cells, v => ∃ vs : List Value, v = .agg vs.toArray ∧ V.rels μ S h cells vs
  | .tup cells, v => ∃ vs : List Value, v = .tuple vs.toArray ∧ V.rels μ S h cells vs
  | .fn f first cap, v => ∃ a b : List Value, v = .func (.func f) a.toArray b.toArray ∧ V.rels μ S h first a ∧ V.rels μ S h cap b
  | .ifc t x, v => ∃ u, v = .iface t u ∧ V.rel μ S h x u
def V.rels (μ : Mu) (S : Stab) (h : List Blk) : List V → List Value → Prop
  | [], vs => vs = []
  | c :: cs, vs => ∃ v ws, vs = v :: ws ∧ V.rel μ S h c v ∧ V.rels μ S h cs ws
end

/-- Rows of lists that hold nothing yet are not made yet. -/
def Blk.live : Blk → Prop
  | .absent | .ghost => False
  | .tip _ n => 0 < n
  | _ => True

def Blk.rel (μ : Mu) (S : Stab) (h : List Blk) (w : World) (p : Pl) : Blk → Prop
  | .cells cs => ∃ (vals : List Value) (el : TypeId), w.heap[p.blk]? = some (.cells vals.toArray el (0, 0)) ∧ V.rels μ S h cs vals ∧ ∀ v ∈ vals, cellVal v
  | .tip sz n => 0 < n → ∃ (vals : Array Value) (el : TypeId), w.heap[p.blk]? = some (.cells vals el (0, 0)) ∧ p.cap * sz ≤ vals.size ∧ n ≤ p.cap
  | .absent | .ghost => True

structure Inv (μ : Mu) (S : Stab) (h : List Blk) (w : World) : Prop where
  st : ∀ b o v, S b o = some v → w.cell? ⟨b, o, none⟩ = some v ∧ cellVal v
  bl : ∀ (i : Nat) (x : Blk), h[i]? = some x → x.rel μ S h w (μ i)
  inj : ∀ (i j : Nat) (x y : Blk), h[i]? = some x → h[j]? = some y → x.live → y.live → (μ i).blk = (μ j).blk → i = j
  sepc : ∀ (i : Nat) (cs : List V), h[i]? = some (.cells cs) → ∀ o, S (μ i).blk o = none
  sept : ∀ (i sz n : Nat), h[i]? = some (.tip sz n) → 0 < n → ∀ o, n * sz ≤ o → S (μ i).blk o = none

/-- What a step leaves of the names: enough to read a value as before. -/
structure Kp (μ : Mu) (S : Stab) (h : List Blk) (μ' : Mu) (S' : Stab) (h' : List Blk) : Prop where
  sub : S.le S'
  len : h.length ≤ h'.length
  keepc : ∀ (i : Nat), i < h.length → Fix h[i]? → μ' i = μ i
  keept : ∀ (i sz n : Nat), h[i]? = some (.tip sz n) → ∃ n', h'[i]? = some (.tip sz n') ∧ n ≤ n' ∧ (n' = n → μ' i = μ i)
  notip : ∀ (i sz n : Nat), i < h.length → h'[i]? = some (.tip sz n) → ∃ n0, h[i]? = some (.tip sz n0)
  noghost : ∀ (i : Nat), i < h.length → h'[i]? = some .ghost → h[i]? = some .ghost

theorem Kp.fix {μ μ' : Mu} {S S' : Stab} {h h' : List Blk} (k : Kp μ S h μ' S' h') {i : Nat} (hi : i < h.length) (e : Fix h[i]?) : Fix h'[i]? := by
  intro x hx
  cases x with
  | tip sz n => obtain ⟨n0, e0⟩ := k.notip i sz n hi hx; exact absurd (e _ e0) (by simp [Blk.fixed])
  | ghost => exact absurd (e _ (k.noghost i hi hx)) (by simp [Blk.fixed])
  | cells _ => rfl
  | absent => rfl

theorem Kp.refl (μ : Mu) (S : Stab) (h : List Blk) : Kp μ S h μ S h :=
  ⟨Stab.le_refl S, Nat.le_refl _, fun _ _ _ => rfl, fun _ _ n e => ⟨n, e, Nat.le_refl _, fun _ => rfl⟩, fun _ _ n _ e => ⟨n, e⟩, fun _ _ e => e⟩

theorem Kp.trans {μ μ' μ'' : Mu} {S S' S'' : Stab} {h h' h'' : List Blk} (a : Kp μ S h μ' S' h') (b : Kp μ' S' h' μ'' S'' h'') : Kp μ S h μ'' S'' h'' where
  sub := Stab.le_trans a.sub b.sub
  len := Nat.le_trans a.len b.len
  keepc := fun i hi ht => (b.keepc i (Nat.lt_of_lt_of_le hi a.len) (a.fix hi ht)).trans (a.keepc i hi ht)
  noghost := fun i hi e => a.noghost i hi (b.noghost i (Nat.lt_of_lt_of_le hi a.len) e)
  keept := fun i sz n e => by
    obtain ⟨n1, e1, l1, m1⟩ := a.keept i sz n e
    obtain ⟨n2, e2, l2, m2⟩ := b.keept i sz n1 e1
    refine ⟨n2, e2, Nat.le_trans l1 l2, fun he => ?_⟩
    have h1 : n1 = n := by omega
    have h2 : n2 = n1 := by omega
    rw [m2 h2, m1 h1]
  notip := fun i sz n hi e => by
    obtain ⟨n1, e1⟩ := b.notip i sz n (Nat.lt_of_lt_of_le hi a.len) e
    exact a.notip i sz n1 hi e1

mutual
theorem V.rel_mono {μ μ' : Mu} {S S' : Stab} {h h' : List Blk} (k : Kp μ S h μ' S' h') : ∀ (x : V) (v : Value), V.rel μ S h x v → V.rel μ' S' h' x v
  | .d x, v, r => D.rel_mono k.sub x v r
  | .ptr id off, v, ⟨r1, r2, r3⟩ => ⟨Nat.lt_of_lt_of_le r1 k.len, k.fix r1 r2, by rw [k.keepc id r1 r2]; exact r3⟩
  | .gs id sz n cells, v, ⟨r1, base, cap, e, h1, h2, h3⟩ => by
    refine ⟨Nat.lt_of_lt_of_le r1 k.len, base, cap, e, h1, h2, h3.imp_right fun ⟨hp, b, eb, h3, h4⟩ => ⟨hp, b, eb, D.relAt_mono k.sub cells b 0 h3, fun m hm => ?_⟩⟩
    obtain ⟨n0, e0⟩ := k.notip id sz m r1 hm
    obtain ⟨n1, e1, l1, m1⟩ := k.keept id sz n0 e0
    obtain ⟨l2, m2⟩ := h4 n0 e0
    rw [hm] at e1
    obtain rfl : m = n1 := by injection e1 with e1; injection e1
    refine ⟨Nat.le_trans l2 l1, fun he => ?_⟩
    have hx : n0 = n := by omega
    rw [m1 (by omega)]
    exact m2 hx
  | .sl id off _ n cap, v, ⟨r1, r2, r3, r4⟩ => ⟨Nat.lt_of_lt_of_le r1 k.len, k.fix r1 r2, r3, by rw [k.keepc id r1 r2]; exact r4⟩
  | .agg cells, v, ⟨vs, e, r⟩ => ⟨vs, e, V.rels_mono k cells vs r⟩
  | .tup cells, v, ⟨vs, e, r⟩ => ⟨vs, e, V.rels_mono k cells vs r⟩
  | .fn f first cap, v, ⟨a, b, e, r, r'⟩ => ⟨a, b, e, V.rels_mono k first a r, V.rels_mono k cap b r'⟩
  | .ifc t x, v, ⟨u, e, r⟩ => ⟨u, e, V.rel_mono k x u r⟩
theorem V.rels_mono {μ μ' : Mu} {S S' : Stab} {h h' : List Blk} (k : Kp μ S h μ' S' h') : ∀ (xs : List V) (vs : List Value), V.rels μ S h xs vs → V.rels μ' S' h' xs vs
  | [], _, r => r
  | x :: xs, _, ⟨v, ws, e, r, r'⟩ => ⟨v, ws, e, V.rel_mono k x v r, V.rels_mono k xs ws r'⟩
end

/-- The block of the machine belongs to the abstract memory. -/
def owns (μ : Mu) (h : List Blk) (b : Nat) : Prop := ∃ (i : Nat) (x : Blk), h[i]? = some x ∧ x.live ∧ (μ i).blk = b

structure Tr (μ : Mu) (S : Stab) (h : List Blk) (w : World) (μ' : Mu) (S' : Stab) (h' : List Blk) (w' : World) : Prop where
  inv : Inv μ' S' h' w'
  kp : Kp μ S h μ' S' h'
  fresh : ∀ b o v, S' b o = some v → S b o = none → w.heap.size ≤ b ∨ owns μ h b
  frame : ∀ b, b < w.heap.size → ¬ owns μ h b → w'.heap[b]? = w.heap[b]?
  own : ∀ b, owns μ' h' b → w.heap.size ≤ b ∨ owns μ h b
  size : w.heap.size ≤ w'.heap.size
  os : w'.os = w.os
  tape : w'.tape = w.tape
  output : w'.output = w.output


theorem Tr.refl {μ : Mu} {S : Stab} {h : List Blk} {w : World} (i : Inv μ S h w) : Tr μ S h w μ S h w :=
  ⟨i, Kp.refl _ _ _, fun _ _ _ a b => by simp [a] at b, fun _ _ _ => rfl, fun _ h => .inr h, Nat.le_refl _, rfl, rfl, rfl⟩

theorem Tr.trans {μ μ' μ'' : Mu} {S S' S'' : Stab} {h h' h'' : List Blk} {w w' w'' : World} (a : Tr μ S h w μ' S' h' w') (b : Tr μ' S' h' w' μ'' S'' h'' w'') :
    Tr μ S h w μ'' S'' h'' w'' where
  inv := b.inv
  kp := a.kp.trans b.kp
  fresh := fun k o v e e0 => by
    cases hs : S' k o with
    | none => rcases b.fresh k o v e hs with h1 | h1
              · exact .inl (Nat.le_trans a.size h1)
              · exact a.own k h1
    | some u => exact a.fresh k o u hs e0
  frame := fun k hk ho => by
    rw [b.frame k (Nat.lt_of_lt_of_le hk a.size) (fun h1 => (a.own k h1).elim (fun h2 => by omega) ho)]
    exact a.frame k hk ho
  own := fun k hk => by
    rcases b.own k hk with h1 | h1
    · exact .inl (Nat.le_trans a.size h1)
    · exact a.own k h1
  size := Nat.le_trans a.size b.size
  os := b.os.trans a.os
  tape := b.tape.trans a.tape
  output := b.output.trans a.output

end Go.Ev
