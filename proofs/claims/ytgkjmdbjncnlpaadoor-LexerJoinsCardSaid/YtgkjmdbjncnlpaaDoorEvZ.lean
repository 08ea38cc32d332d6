/- Runs with continuations: code and functions, and that they say what the abstract run says. -/
import Derived.Test.YtgkjmdbjncnlpaaDoorEvY
import Derived.IntWalk
namespace Go.Ev
set_option linter.unusedVariables false
set_option linter.unusedSimpArgs false

section
variable {ρ : Type}

/-! ### One operation -/

def dflK (r : ROp) (ev : RX → V) (h : List KB) (k : V → List KB → Option ρ) : Option ρ := match ev1 r ev [] with
  | some (v, _) => k v h
  | none => none

def k1 (r : ROp) (sh : SH) (ev : RX → V) (h : List KB) (k : V → List KB → Option ρ) : Option ρ := match r with
  | .pick c a b => vB (ev c) fun t => cond t (k (ev a) h) (k (ev b) h)
  | .alloc zero => snocK h (.cells (zero.map .d)) fun h' => k (.ptr h.length 0) h'
  | .allocA id zero => match h[id]? with | some .ghost => setK h id (.cells (zero.map .d)) fun h' => k (.ptr id 0) h' | _ => none
  | .allocR _ _ => none
  | .cvbs x => match ev x with
    | .d (.lst _ n cells _) => bytesK cells fun l => ass (l.length == n && decide (0 < n)) (k (.d (.str l)) h)
    | .gs _ _ n cells => bytesK cells fun l => ass (l.length == n && decide (0 < n)) (k (.d (.str l)) h)
    | _ => none
  | .box x => match (ev x).cellsOf with | some cs => snocK h (.cells cs) fun h' => k (.ptr h.length 0) h' | none => none
  | .load ag n x => loadK ag n sh h (ev x) fun v => k v h
  | .store n x y => storeK n h (ev y) (ev x) fun h' => k (.d (.tup [])) h'
  | .iadrA len sz x i => vI (ev i) fun n => ass (decide (0 ≤ n) && decide (n < len)) (fadrK (n.toNat * sz) (ev x) fun v => k v h)
  | .iadrS sz x i => vI (ev i) fun n => iadrK sz n (ev x) fun v => k v h
  | .idxA ag len sz x i => vI (ev i) fun n => ass (decide (0 ≤ n) && decide (n < len)) (idxK ag sz sh n (ev x) fun v => k v h)
  | .idxS x i => match ev x with
    | .d (.str l) => vI (ev i) fun n => ass (decide (0 ≤ n)) (gU l n.toNat fun b => k (.d (.int .u8 b.toNat)) h)
    | _ => none
  | .slS sz x lo hi mx => optK ev lo fun l => optK ev hi fun u => optK ev mx fun m => slK sz l u m (ev x) fun v => k v h
  | .slA len sz x lo hi mx => optK ev lo fun l => optK ev hi fun u => optK ev mx fun m => slAK len sz l u m (ev x) fun v => k v h
  | .slT x lo hi => match ev x with
    | .d (.str s) => optK ev lo fun l => optK ev hi fun u => bndsK true s.length s.length l u none fun a b _ => k (.d (.str ((s.drop a).take (b - a)))) h
    | _ => none
  | .bin op x y => match ev x, ev y with | .d a, .d b => binK op a b fun v => k (.d v) h | _, _ => none
  | .eqs neg plan x y => eqsK plan (ev x) (ev y) fun b => k (.d (.bool (if neg then !b else b))) h
  | .isnil kk neg x => nilK kk (ev x) fun b => k (.d (.bool (if neg then !b else b))) h
  | .mksl sz bytes zero len cap => match ev len, ev cap with
    | .d (.int _ l), .d (.int _ c) => ass (decide (0 ≤ l) && (decide (l ≤ c) && (decide (c * bytes ≤ 281474976710656) && decide (c ≤ 9223372036854775807))))
        (ass (zero.length == sz) (snocK h (.dat ((List.replicate c.toNat zero).flatten)) fun h' => k (.sl h.length 0 sz l.toNat c.toNat) h'))
    | _, _ => none
  | .app sz bytes x y => lsK (ev y) fun m ys => appK sz bytes h (ev x) m ys k
  | r => dflK r ev h k

theorem dflK_some {r : ROp} {ev : RX → V} {h : List KB} {k : V → List KB → Option ρ} {x : ρ} (hc : (RI.op r).cls = 0) (e : dflK r ev h k = some x) :
    ∃ v h', ev1 r ev (raws h) = some (v, raws h') ∧ k v h' = some x := by
  unfold dflK at e
  split at e
  · rename_i v h0 hv
    refine ⟨v, h, ?_, e⟩
    rw [ev1_quiet hc, hv]; rfl
  · cases e

theorem k1_some {r : ROp} {sh : SH} {ev : RX → V} {h : List KB} {k : V → List KB → Option ρ} {x : ρ} (e : k1 r sh ev h k = some x) :
    ∃ v h', ev1 r ev (raws h) = some (v, raws h') ∧ k v h' = some x := by
  have dfl : (RI.op r).cls = 0 → dflK r ev h k = some x → ∃ v h', ev1 r ev (raws h) = some (v, raws h') ∧ k v h' = some x := fun hc e => dflK_some hc e
  cases r with
  | pick c a b =>
    simp only [k1] at e
    obtain ⟨t, h1, e⟩ := vB_some e
    cases t with
    | true => exact ⟨_, h, by simp only [ev1, h1]; rfl, e⟩
    | false => exact ⟨_, h, by simp only [ev1, h1]; rfl, e⟩
  | alloc zero =>
    simp only [k1, snocK_eq] at e
    exact ⟨_, _, by simp [ev1, raws, KB.raw], e⟩
  | allocR r z => cases e
  | allocA id zero =>
    simp only [k1] at e
    split at e
    · rename_i hg
      rw [setK_eq] at e
      refine ⟨_, _, ?_, e⟩
      simp only [ev1, raws_get hg, KB.raw]
      simp [raws, KB.raw]
    · cases e
  | cvbs y =>
    simp only [k1] at e
    have key : ∀ m cells, (ev y).list? = some (m, cells) → (bytesK cells fun l => ass (l.length == m && decide (0 < m)) (k (.d (.str l)) h)) = some x → ∃ v h', ev1 (.cvbs y) ev (raws h) = some (v, raws h') ∧ k v h' = some x := by
      intro m cells hl e
      obtain ⟨l, h1, e⟩ := bytesK_some e
      obtain ⟨h2, e⟩ := ass_some e
      simp only [Bool.and_eq_true, beq_iff_eq, decide_eq_true_eq] at h2
      exact ⟨_, h, by simp only [ev1, hl, h1, Option.bind_some]; rw [if_pos h2], e⟩
    split at e
    · rename_i hy; exact key _ _ (by rw [hy]; rfl) e
    · rename_i hy; exact key _ _ (by rw [hy]; rfl) e
    · cases e
  | box y =>
    simp only [k1] at e
    split at e
    · rename_i cs hcs
      rw [snocK_eq] at e
      exact ⟨_, _, by simp [ev1, hcs, raws, KB.raw], e⟩
    · cases e
  | load ag n y =>
    simp only [k1] at e
    obtain ⟨u, h1, e⟩ := loadK_some e
    exact ⟨_, _, by simp only [ev1, h1, Option.map_some], e⟩
  | store n y z =>
    simp only [k1] at e
    obtain ⟨h', h1, e⟩ := storeK_some e
    exact ⟨_, _, by simp only [ev1, h1, Option.map_some], e⟩
  | iadrA len sz y i =>
    simp only [k1] at e
    obtain ⟨kd, n, h1, e⟩ := vI_some e
    obtain ⟨h2, e⟩ := ass_some e
    simp only [Bool.and_eq_true, decide_eq_true_eq] at h2
    obtain ⟨u, h3, e⟩ := fadrK_some e
    exact ⟨_, _, by simp only [ev1, h1, V.int?]; rw [if_pos h2, h3]; rfl, e⟩
  | iadrS sz y i =>
    simp only [k1] at e
    obtain ⟨kd, n, h1, e⟩ := vI_some e
    obtain ⟨u, h3, e⟩ := iadrK_some e
    exact ⟨_, _, by simp only [ev1, h1, V.int?, h3, Option.map_some], e⟩
  | idxA ag len sz y i =>
    simp only [k1] at e
    obtain ⟨kd, n, h1, e⟩ := vI_some e
    obtain ⟨h2, e⟩ := ass_some e
    simp only [Bool.and_eq_true, decide_eq_true_eq] at h2
    obtain ⟨u, h3, e⟩ := idxK_some e
    exact ⟨_, _, by simp only [ev1, h1, V.int?]; rw [if_pos h2, h3]; rfl, e⟩
  | idxS y i =>
    simp only [k1] at e
    split at e
    · rename_i l hl
      obtain ⟨kd, n, h1, e⟩ := vI_some e
      obtain ⟨h2, e⟩ := ass_some e
      obtain ⟨b, h3, e⟩ := gU_some e
      exact ⟨_, _, by simp only [ev1, hl, h1, V.int?]; rw [if_pos (by simpa using h2), h3]; rfl, e⟩
    · cases e
  | slS sz y lo hi mx =>
    simp only [k1] at e
    obtain ⟨z1, h1, e⟩ := optK_some e
    obtain ⟨z2, h2, e⟩ := optK_some e
    obtain ⟨z3, h3, e⟩ := optK_some e
    obtain ⟨u, h4, e⟩ := slK_some e
    exact ⟨_, _, by simp only [ev1, h1, h2, h3, h4, Option.map_some], e⟩
  | slA len sz y lo hi mx =>
    simp only [k1] at e
    obtain ⟨z1, h1, e⟩ := optK_some e
    obtain ⟨z2, h2, e⟩ := optK_some e
    obtain ⟨z3, h3, e⟩ := optK_some e
    obtain ⟨u, h4, e⟩ := slAK_some e
    exact ⟨_, _, by simp only [ev1, h1, h2, h3, h4, Option.map_some], e⟩
  | slT y lo hi =>
    simp only [k1] at e
    split at e
    · rename_i s hs
      obtain ⟨z1, h1, e⟩ := optK_some e
      obtain ⟨z2, h2, e⟩ := optK_some e
      obtain ⟨l, u, m, h3, e⟩ := bndsK_some (fun _ => Nat.le_refl _) e
      exact ⟨_, _, by simp only [ev1, hs, h1, h2, h3], e⟩
    · cases e
  | bin op y z =>
    simp only [k1] at e
    split at e
    · rename_i a b h1 h2
      obtain ⟨c, h3, e⟩ := binK_some e
      exact ⟨_, _, by simp only [ev1, h1, h2, h3, Option.map_some], e⟩
    · cases e
  | eqs neg plan y z =>
    simp only [k1] at e
    obtain ⟨b, h3, e⟩ := eqsK_some e
    exact ⟨_, _, by simp only [ev1, h3, Option.map_some], e⟩
  | isnil kk neg y =>
    simp only [k1] at e
    obtain ⟨b, h3, e⟩ := nilK_some e
    exact ⟨_, _, by simp only [ev1, h3, Option.map_some], e⟩
  | mksl sz bytes zero len cap =>
    simp only [k1] at e
    split at e
    · rename_i k1 l k2 c h1 h2
      obtain ⟨h3, e⟩ := ass_some e
      obtain ⟨h4, e⟩ := ass_some e
      simp only [Bool.and_eq_true, decide_eq_true_eq, beq_iff_eq] at h3 h4
      rw [snocK_eq] at e
      refine ⟨_, _, ?_, e⟩
      simp only [ev1, h1, h2]
      rw [if_pos ⟨h3.1, h3.2.1, h3.2.2.1, h3.2.2.2, h4⟩]
      simp [raws, KB.raw, List.map_flatten, List.map_replicate]
    · cases e
  | app sz bytes y z =>
    simp only [k1] at e
    unfold lsK at e
    split at e
    · rename_i l hl
      obtain ⟨u, h', h1, e⟩ := appK_some e
      exact ⟨_, _, by simp only [ev1, hl, h1], e⟩
    · rename_i sz' n cells ex hl
      obtain ⟨u, h', h1, e⟩ := appK_some e
      exact ⟨_, _, by simp only [ev1, hl, V.list?, h1], e⟩
    · rename_i id sz' n cells hl
      obtain ⟨u, h', h1, e⟩ := appK_some e
      exact ⟨_, _, by simp only [ev1, hl, V.list?, h1], e⟩
    · rename_i hl
      obtain ⟨u, h', h1, e⟩ := appK_some e
      exact ⟨_, _, by simp only [ev1, hl, V.list?, h1], e⟩
    · cases e
  | _ => exact dfl rfl e

/-! ### Tidying -/

def KB.ids : KB → List Nat
  | .cells cs => V.idsL cs
  | _ => []

def KB.idsB : List KB → List Nat
  | [] => []
  | b :: bs => b.ids ++ KB.idsB bs

def KB.getBs (h : List KB) : List Nat → Option (List KB)
  | [] => some []
  | i :: r => match h[i]?, KB.getBs h r with | some b, some bs => some (b :: bs) | _, _ => none

def KB.ren (σ : Nat → Option Nat) : KB → Option KB
  | .cells cs => match V.renL σ cs with | some x => some (.cells x) | none => none
  | b => some b

def KB.renL (σ : Nat → Option Nat) : List KB → Option (List KB)
  | [] => some []
  | b :: bs => match b.ren σ, KB.renL σ bs with | some x, some xs => some (x :: xs) | _, _ => none

def compact2 (n : Nat) (vs : List V) (h : List KB) : Option (List V × List KB) :=
  match KB.getBs h (addNew n [] (V.idsL vs ++ KB.idsB (h.take n))) with
  | some b1 => match KB.getBs h (addNew n (addNew n [] (V.idsL vs ++ KB.idsB (h.take n))) (KB.idsB b1)) with
    | some b2 => match V.renL (rho n (addNew n (addNew n [] (V.idsL vs ++ KB.idsB (h.take n))) (KB.idsB b1))) vs,
        KB.renL (rho n (addNew n (addNew n [] (V.idsL vs ++ KB.idsB (h.take n))) (KB.idsB b1))) (h.take n), KB.renL (rho n (addNew n (addNew n [] (V.idsL vs ++ KB.idsB (h.take n))) (KB.idsB b1))) b2 with
      | some vs', some x, some y => if n ≤ h.length then some (vs', x ++ y) else none
      | _, _, _ => none
    | none => none
  | none => none

theorem ids_map (l : List D) : V.idsL (l.map V.d) = [] := by
  induction l with
  | nil => rfl
  | cons a l ih => simp [V.idsL, V.ids, ih]

theorem ren_map (σ : Nat → Option Nat) (l : List D) : V.renL σ (l.map V.d) = some (l.map V.d) := by
  induction l with
  | nil => rfl
  | cons a l ih => simp [V.renL, V.ren, ih]

theorem raw_ids (b : KB) : b.raw.ids = b.ids := by
  cases b <;> simp [KB.raw, Blk.ids, KB.ids, ids_map]

theorem raw_idsB : ∀ h : List KB, idsB (raws h) = KB.idsB h
  | [] => rfl
  | b :: bs => by
    have := raw_idsB bs
    simp only [raws, List.map_cons, idsB, KB.idsB, raw_ids] at this ⊢
    rw [this]

theorem raw_getBs {h : List KB} : ∀ {s : List Nat} {bs : List KB}, KB.getBs h s = some bs → getBs (raws h) s = some (raws bs)
  | [], bs, e => by simp only [KB.getBs, Option.some.injEq] at e; subst e; rfl
  | i :: r, bs, e => by
    simp only [KB.getBs] at e
    split at e
    · rename_i b xs h1 h2
      injection e with e; subst e
      simp [getBs, raws_get h1, raw_getBs h2]
    · cases e

theorem raw_ren {σ : Nat → Option Nat} {b b' : KB} (e : b.ren σ = some b') : b.raw.ren σ = some b'.raw := by
  cases b with
  | cells cs =>
    simp only [KB.ren] at e
    split at e
    · rename_i x hx; injection e with e; subst e; simp [KB.raw, Blk.ren, hx]
    · cases e
  | dat cs => simp only [KB.ren] at e; injection e with e; subst e; simp [KB.raw, Blk.ren, ren_map]
  | tip a c => simp only [KB.ren] at e; injection e with e; subst e; simp [KB.raw, Blk.ren]
  | absent => simp only [KB.ren] at e; injection e with e; subst e; simp [KB.raw, Blk.ren]
  | ghost => simp only [KB.ren] at e; injection e with e; subst e; simp [KB.raw, Blk.ren]

theorem raw_renL {σ : Nat → Option Nat} : ∀ {bs ys : List KB}, KB.renL σ bs = some ys → Blk.renL σ (raws bs) = some (raws ys)
  | [], ys, e => by simp only [KB.renL, Option.some.injEq] at e; subst e; rfl
  | b :: bs, ys, e => by
    simp only [KB.renL] at e
    split at e
    · rename_i x xs h1 h2
      injection e with e; subst e
      simp only [raws, List.map_cons, Blk.renL, raw_ren h1]
      have := raw_renL h2
      simp only [raws] at this
      rw [this]
    · cases e

theorem compact2_some {n : Nat} {vs vs' : List V} {h h' : List KB} (e : compact2 n vs h = some (vs', h')) : compact n vs (raws h) = (vs', raws h') := by
  unfold compact2 at e
  split at e
  case h_2 => cases e
  rename_i b1 h1
  split at e
  case h_2 => cases e
  rename_i b2 h2
  split at e
  case h_2 => cases e
  rename_i a x y h3 h4 h5
  split at e
  case isFalse => cases e
  rename_i hn
  injection e with e; injection e with e1 e2; subst e1; subst e2
  have ht : (raws h).take n = raws (h.take n) := by simp [raws, List.map_take]
  have g1 := raw_getBs h1
  have g2 := raw_getBs h2
  have g4 := raw_renL h4
  have g5 := raw_renL h5
  rw [← raw_idsB, ← ht] at g1 g2 h3 g4 g5
  rw [← raw_idsB] at g2 h3 g4 g5
  unfold compact
  simp only [g1, g2, h3, g4, g5]
  rw [if_pos (by simpa [raws] using hn)]
  simp [raws]

def forceV (v : V) (k : V → Option ρ) : Option ρ := match v with
  | .d x => k (.d x)
  | .ptr a b => k (.ptr a b)
  | .gs a b c d => k (.gs a b c d)
  | .sl a b c d e => k (.sl a b c d e)
  | .agg l => k (.agg l)
  | .tup l => k (.tup l)
  | .fn f a b => k (.fn f a b)
  | .ifc t v => k (.ifc t v)

theorem forceV_eq (v : V) (k : V → Option ρ) : forceV v k = k v := by cases v <;> rfl

def forceL : List V → (List V → Option ρ) → Option ρ
  | [], k => k []
  | x :: xs, k => forceV x fun y => forceL xs fun ys => k (y :: ys)

theorem forceL_eq : ∀ (l : List V) (k : List V → Option ρ), forceL l k = k l
  | [], _ => rfl
  | x :: xs, k => by simp [forceL, forceV_eq, forceL_eq xs]

def forceB (b : KB) (k : KB → Option ρ) : Option ρ := match b with
  | .cells cs => forceL cs fun cs => k (.cells cs)
  | .dat cs => k (.dat cs)
  | .tip a b => k (.tip a b)
  | .absent => k .absent
  | .ghost => k .ghost

theorem forceB_eq (v : KB) (k : KB → Option ρ) : forceB v k = k v := by cases v <;> simp [forceB, forceL_eq]

def forceH : List KB → (List KB → Option ρ) → Option ρ
  | [], k => k []
  | x :: xs, k => forceB x fun y => forceH xs fun ys => k (y :: ys)

theorem forceH_eq : ∀ (l : List KB) (k : List KB → Option ρ), forceH l k = k l
  | [], _ => rfl
  | x :: xs, k => by simp [forceH, forceB_eq, forceH_eq xs]

def wd1K (x : Wd) (ts : List V) (h : List KB) (k : List V → List KB → Option ρ) : Option ρ := match x with
  | .gs i sz => match ts[i]? with
    | some v => cond (noRoom v) (setK ts i (.gs h.length sz 0 []) fun ts' => snocK h (.tip sz 0) fun h' => k ts' h') (k ts h)
    | none => k ts h
  | .lst i sz => match ts[i]? with
    | some v => setK ts i (widV sz v) fun ts' => k ts' h
    | none => k ts h
  | .cgs id off sz => match h[id]? with
    | some (.cells cs) => match cs[off]? with
      | some v => cond (noRoom v) (snocK h (.tip sz 0) fun h1 => setK h1 id (.cells (cs.set off (.gs h.length sz 0 []))) fun h2 => k ts h2) (k ts h)
      | none => k ts h
    | _ => none
  | .clst id off sz => match h[id]? with
    | some (.cells cs) => match cs[off]? with
      | some v => setK h id (.cells (cs.set off (widV sz v))) fun h' => k ts h'
      | none => k ts h
    | _ => none

theorem wd1K_some {w : Wd} {ts : List V} {h : List KB} {k : List V → List KB → Option ρ} {x : ρ} (e : wd1K w ts h k = some x) :
    ∃ ts' h', wd1 w ts (raws h) = (ts', raws h') ∧ k ts' h' = some x := by
  cases w with
  | gs i sz =>
    simp only [wd1K] at e
    split at e
    · rename_i v hv
      cases hn : noRoom v with
      | true =>
        rw [hn] at e
        simp only [cond_true, setK_eq, snocK_eq] at e
        exact ⟨_, _, by simp [wd1, hv, hn, raws, KB.raw], e⟩
      | false =>
        rw [hn] at e
        exact ⟨_, _, by simp [wd1, hv, hn], e⟩
    · rename_i hv
      exact ⟨_, _, by simp [wd1, hv], e⟩
  | lst i sz =>
    simp only [wd1K] at e
    split at e
    · rename_i v hv
      rw [setK_eq] at e
      exact ⟨_, _, by simp [wd1, hv], e⟩
    · rename_i hv
      exact ⟨_, _, by simp [wd1, hv], e⟩
  | cgs id off sz =>
    simp only [wd1K] at e
    split at e
    · rename_i cs hcs
      split at e
      · rename_i v hv
        cases hn : noRoom v with
        | true =>
          rw [hn] at e
          simp only [cond_true, setK_eq, snocK_eq] at e
          refine ⟨_, _, ?_, e⟩
          simp only [wd1, raws_get hcs, KB.raw, hv, hn, if_true]
          simp [raws, KB.raw]
        | false =>
          rw [hn] at e
          exact ⟨_, _, by simp only [wd1, raws_get hcs, KB.raw, hv, hn, Bool.false_eq_true, if_false], e⟩
      · rename_i hv
        exact ⟨_, _, by simp only [wd1, raws_get hcs, KB.raw, hv], e⟩
    · cases e
  | clst id off sz =>
    simp only [wd1K] at e
    split at e
    · rename_i cs hcs
      split at e
      · rename_i v hv
        rw [setK_eq] at e
        refine ⟨_, _, ?_, e⟩
        simp only [wd1, raws_get hcs, KB.raw, hv]
        simp [raws, KB.raw]
      · rename_i hv
        exact ⟨_, _, by simp only [wd1, raws_get hcs, KB.raw, hv], e⟩
    · cases e

def wdsK : List Wd → List V → List KB → (List V → List KB → Option ρ) → Option ρ
  | [], ts, h, k => k ts h
  | x :: r, ts, h, k => wd1K x ts h fun ts h => wdsK r ts h k

theorem wdsK_some : ∀ {l : List Wd} {ts : List V} {h : List KB} {k : List V → List KB → Option ρ} {x : ρ}, wdsK l ts h k = some x → ∃ ts' h', wds l ts (raws h) = (ts', raws h') ∧ k ts' h' = some x
  | [], ts, h, k, x, e => ⟨ts, h, rfl, e⟩
  | w :: l, ts, h, k, x, e => by
    simp only [wdsK] at e
    obtain ⟨ts1, h1, e1, e⟩ := wd1K_some e
    obtain ⟨ts2, h2, e2, e⟩ := wdsK_some e
    exact ⟨ts2, h2, by simp only [wds, e1, e2], e⟩

/-- Blocks of plain data, seen as such. -/
def datK : List Nat → List KB → (List KB → Option ρ) → Option ρ
  | [], h, k => k h
  | i :: r, h, k => match h[i]? with
    | some (.cells cs) => match allD cs with
      | some ds => setK h i (.dat ds) fun h' => datK r h' k
      | none => none
    | _ => datK r h k

theorem datK_some : ∀ {l : List Nat} {h : List KB} {k : List KB → Option ρ} {x : ρ}, datK l h k = some x → ∃ h', raws h' = raws h ∧ k h' = some x
  | [], h, k, x, e => ⟨h, rfl, e⟩
  | i :: l, h, k, x, e => by
    simp only [datK] at e
    split at e
    · rename_i cs hcs
      split at e
      · rename_i ds hds
        rw [setK_eq] at e
        obtain ⟨h', e1, e⟩ := datK_some e
        refine ⟨h', ?_, e⟩
        rw [e1]
        apply List.ext_getElem?
        intro j
        simp only [raws, List.getElem?_map, List.getElem?_set]
        split
        · rename_i q; subst q
          rw [if_pos (lt_of_get hcs), hcs]
          simp [KB.raw, allD_eq' hds]
        · rfl
      · cases e
    · exact datK_some e

def tdK (keep : List Nat) (ws : List Wd) (dt : List Nat) (n : Nat) (ts : List V) (h : List KB) (k : List V → List KB → Option ρ) : Option ρ :=
  match compact2 n (forget keep 0 ts) h with
  | some (ts', h') => forceL ts' fun ts' => forceH h' fun h' => wdsK ws ts' h' fun ts2 h2 => datK dt h2 fun h3 => k ts2 h3
  | none => none

theorem tdK_some {keep : List Nat} {ws : List Wd} {dt : List Nat} {h0 : List KB} {ts : List V} {h : List KB} {k : List V → List KB → Option ρ} {x : ρ} (e : tdK keep ws dt h0.length ts h k = some x) :
    ∃ ts' h', tidy keep ws (raws h0) ts (raws h) = (ts', raws h') ∧ k ts' h' = some x := by
  unfold tdK at e
  split at e
  · rename_i ts1 h1 hc
    rw [forceL_eq, forceH_eq] at e
    obtain ⟨ts2, h2, e2, e⟩ := wdsK_some e
    obtain ⟨h3, e3, e⟩ := datK_some e
    refine ⟨ts2, h3, ?_, e⟩
    have := compact2_some hc
    unfold tidy
    rw [show (raws h0).length = h0.length by simp [raws], this, e3]
    exact e2
  · cases e

def tidyK (ti : TI) (dt : List Nat) (n : Nat) (K : Ex → List V → List KB → Option ρ) (ex : Ex) (ts : List V) (h : List KB) : Option ρ := match ex with
  | .nor => tdK ti.keep ti.beh dt n ts h (K .nor)
  | .exit i => tdK ti.keep ti.beh dt n ts h (K (.exit i))
  | .ret => tdK ti.res [] [] n ts h (K .ret)
  | .pan v => K (.pan v) ts h

theorem tidyK_some {ti : TI} {dt : List Nat} {h0 : List KB} {K : Ex → List V → List KB → Option ρ} {ex : Ex} {ts : List V} {h : List KB} {x : ρ} (e : tidyK ti dt h0.length K ex ts h = some x) :
    ∃ ex' ts' h', tidyE ti (raws h0) (some (ex, ts, raws h)) = some (ex', ts', raws h') ∧ K ex' ts' h' = some x := by
  cases ex with
  | nor =>
    simp only [tidyK] at e
    obtain ⟨ts', h', e1, e⟩ := tdK_some e
    exact ⟨_, ts', h', by simp only [tidyE, e1], e⟩
  | exit i =>
    simp only [tidyK] at e
    obtain ⟨ts', h', e1, e⟩ := tdK_some e
    exact ⟨_, ts', h', by simp only [tidyE, e1], e⟩
  | ret =>
    simp only [tidyK] at e
    obtain ⟨ts', h', e1, e⟩ := tdK_some e
    exact ⟨_, ts', h', by simp only [tidyE, e1], e⟩
  | pan v => exact ⟨_, ts, h, rfl, e⟩

/-! ### Code -/

abbrev CallK (ρ : Type) := FuncId → List V → List KB → (Out → List KB → Option ρ) → Option ρ

structure KO where
  o : RO
  sh : SH
  deriving Inhabited

inductive KC where
  | skip
  | ops (l : List KO)
  | par (k : Nat) (l : List KO)
  | seq (a b : KC)
  | cond (c : RX) (a b : KC)
  | block (id : Nat) (c : KC)
  | loop (ti : TI) (dt : List Nat) (c : KC)
  | tidy (ti : TI) (dt : List Nat) (c : KC)
  | exit (id : Nat)
  | scope (c : KC)
  | ret
  deriving Inhabited

structure KF where
  ntmps : Nat
  res : List RRes
  code : KC
  deriving Inhabited

def KC.era : KC → RC
  | .skip => .skip
  | .ops l => .ops (l.map (·.o))
  | .par k l => .par k (l.map (·.o))
  | .seq a b => .seq a.era b.era
  | .cond c a b => .cond c a.era b.era
  | .block id c => .block id c.era
  | .loop ti _ c => .loop ti c.era
  | .tidy ti _ c => .tidy ti c.era
  | .exit id => .exit id
  | .scope c => .scope c.era
  | .ret => .ret

def KF.era (f : KF) : RF := ⟨f.ntmps, f.res, f.code.era⟩

def kRI (ck : CallK ρ) (sp : SpecT) (ins : RI) (sh : SH) (ts : List V) (h : List KB) (K : Out → List KB → Option ρ) : Option ρ := match ins with
  | .op r => k1 r sh (RX.ev ts) h fun v h' => K (.ret v) h'
  | .call f args => match (f.ev ts).callee with
    | some (g, a, b) => ck g (a ++ args.map (RX.ev ts) ++ b) h K
    | none => none
  | .scall f args => match sp f with
    | some F => match toDs (args.map (RX.ev ts)) with
      | some ds => (F ds).bind fun d => chkS sh d fun d => K (.ret (.d d)) h
      | none => none
    | none => none
  | .pan x => match x.ev ts with
    | .d (.ifc t y) => K (.pan (.d (.ifc t y))) h
    | .ifc t y => K (.pan (.ifc t y)) h
    | _ => none

/-- Is an operation wanted? The answer is written down. -/
def guardK (ts : List V) (g : Option (Nat × Bool)) (kt kf : List V → Option ρ) : Option ρ := match g with
  | none => kt ts
  | some (t, b) => match ts.getD t (.d (.tup [])) with
    | .d (.bool c) => match b with
      | true => cond c (setK ts t (.d (.bool true)) kt) (setK ts t (.d (.bool false)) kf)
      | false => cond c (setK ts t (.d (.bool true)) kf) (setK ts t (.d (.bool false)) kt)
    | .d (.tup []) => kf ts
    | _ => none

def putK (ts : List V) (dst : Option Nat) (v : V) (k : List V → Option ρ) : Option ρ := match dst with
  | some t => setK ts t v k
  | none => k ts

/-- What comes behind an operation. -/
def retK (dst : Option Nat) (ts : List V) (f : List V → List KB → (Ex → List V → List KB → Option ρ) → Option ρ) (K : Ex → List V → List KB → Option ρ) (out : Out) (h : List KB) : Option ρ := match out with
  | .ret v => putK ts dst v fun ts' => f ts' h K
  | .pan v => K (.pan v) ts h

def kOps (ck : CallK ρ) (sp : SpecT) : List KO → List V → List KB → (Ex → List V → List KB → Option ρ) → Option ρ
  | [], ts, h, K => K .nor ts h
  | o :: r, ts, h, K => guardK ts o.o.guard
      (fun ts => kRI ck sp o.o.ins o.sh ts h (retK o.o.dst ts (kOps ck sp r) K))
      (fun ts => putK ts o.o.dst (.d (.tup [])) fun ts' => kOps ck sp r ts' h K)

/-- What comes behind a piece of code. -/
def seqK (f : List V → List KB → (Ex → List V → List KB → Option ρ) → Option ρ) (K : Ex → List V → List KB → Option ρ) (ex : Ex) (ts : List V) (h : List KB) : Option ρ := match ex with
  | .nor => f ts h K
  | .exit i => K (.exit i) ts h
  | .ret => K .ret ts h
  | .pan v => K (.pan v) ts h

def blockK (id : Nat) (K : Ex → List V → List KB → Option ρ) (ex : Ex) (ts : List V) (h : List KB) : Option ρ := match ex with
  | .exit i => match i == id with
    | true => K .nor ts h
    | false => K (.exit i) ts h
  | .nor => K .nor ts h
  | .ret => K .ret ts h
  | .pan v => K (.pan v) ts h

def parK (K : Ex → List V → List KB → Option ρ) (ex : Ex) (ts : List V) (h : List KB) : Option ρ := match ex with
  | .nor => K .nor ts h
  | _ => none

def kLoop (f : List V → List KB → (Ex → List V → List KB → Option ρ) → Option ρ) (ti : TI) (dt : List Nat) : Nat → List V → List KB → (Ex → List V → List KB → Option ρ) → Option ρ
  | 0, _, _, _ => none
  | n + 1, ts, h, K => f ts h (tidyK ti dt h.length (seqK (kLoop f ti dt n) K))

/-- A test, written down where it was read. -/
def noteK (c : RX) (b : Bool) (ts : List V) (k : List V → Option ρ) : Option ρ := match c with
  | .t i => setK ts i (.d (.bool b)) k
  | .c _ => k ts

def KO.at (b : Nat) (o : KO) : KO := { o with o := o.o.at b }

/-- Blocks are told of. -/
def tellK : Nat → List KB → (List KB → Option ρ) → Option ρ
  | 0, h, k => k h
  | n + 1, h, k => snocK h .ghost fun h' => tellK n h' k

theorem tellK_eq : ∀ (n : Nat) (h : List KB) (k : List KB → Option ρ), tellK n h k = k (h ++ List.replicate n .ghost)
  | 0, h, k => by simp [tellK]
  | n + 1, h, k => by simp [tellK, snocK_eq, tellK_eq n, List.replicate_succ]

def kC (ck : CallK ρ) (sp : SpecT) (n : Nat) : KC → List V → List KB → (Ex → List V → List KB → Option ρ) → Option ρ
  | .skip, ts, h, K => K .nor ts h
  | .ops l, ts, h, K => kOps ck sp l ts h K
  | .par m l, ts, h, K => tellK m h fun h' => kOps ck sp (l.map (KO.at h.length)) ts h' (parK K)
  | .seq a b, ts, h, K => kC ck sp n a ts h (seqK (kC ck sp n b) K)
  | .cond c a b, ts, h, K => vB (c.ev ts) fun t => cond t (noteK c true ts fun ts => kC ck sp n a ts h K) (noteK c false ts fun ts => kC ck sp n b ts h K)
  | .block id c, ts, h, K => kC ck sp n c ts h (blockK id K)
  | .loop ti dt c, ts, h, K => wdsK ti.ent (forget ti.keep 0 ts) h fun ts1 h1 => datK dt h1 fun h2 => kLoop (kC ck sp n c) ti dt n ts1 h2 K
  | .tidy ti dt c, ts, h, K => kC ck sp n c ts h (tidyK ti dt h.length K)
  | .exit id, ts, h, K => K (.exit id) ts h
  | .scope c, ts, h, K => kC ck sp n c ts h K
  | .ret, ts, h, K => K .ret ts h

def CKOK (ck : CallK ρ) (call : CallT) : Prop := ∀ f args h K x, ck f args h K = some x → ∃ out h', call f args (raws h) = some (out, raws h') ∧ K out h' = some x

section
variable {ck : CallK ρ} {sp : SpecT} {call : CallT}

theorem kRI_some (hk : CKOK ck call) {ins : RI} {sh : SH} {ts : List V} {h : List KB} {K : Out → List KB → Option ρ} {x : ρ} (e : kRI ck sp ins sh ts h K = some x) :
    ∃ out h', evRI call sp ins ts (raws h) = some (out, raws h') ∧ K out h' = some x := by
  cases ins with
  | op r =>
    simp only [kRI] at e
    obtain ⟨v, h', h1, e⟩ := k1_some e
    exact ⟨_, h', by simp only [evRI, h1, Option.map_some], e⟩
  | call f args =>
    simp only [kRI] at e
    split at e
    · rename_i g a b hc
      obtain ⟨out, h', h1, e⟩ := hk _ _ _ _ _ e
      exact ⟨out, h', by simp only [evRI, hc, h1], e⟩
    · cases e
  | scall f args =>
    simp only [kRI] at e
    split at e
    · rename_i F hF
      split at e
      · rename_i ds hds
        rw [Option.bind_eq_some_iff] at e
        obtain ⟨d, hd, e⟩ := e
        have e := chkS_some (k := fun d => K (.ret (.d d)) h) e
        exact ⟨_, h, by simp only [evRI, hF, hds, hd, Option.map_some], e⟩
      · cases e
    · cases e
  | pan y =>
    simp only [kRI] at e
    split at e
    · rename_i t u hy
      exact ⟨_, h, by simp only [evRI, hy], e⟩
    · rename_i t u hy
      exact ⟨_, h, by simp only [evRI, hy], e⟩
    · cases e

theorem set_same {ts : List V} {t : Nat} {v : V} {d : V} (e : ts.getD t d = v) (hne : v ≠ d) : ts.set t v = ts := by
  apply List.ext_getElem?
  intro j
  rw [List.getElem?_set]
  split
  · rename_i q; subst q
    split
    · rename_i hlt
      rw [List.getD_eq_getElem?_getD, List.getElem?_eq_getElem hlt] at e
      simp at e
      rw [List.getElem?_eq_getElem hlt, e]
    · rename_i hge
      rw [List.getElem?_eq_none (by omega)]
  · rfl

theorem guardK_some {ts : List V} {g : Option (Nat × Bool)} {kt kf : List V → Option ρ} {x : ρ} (e : guardK ts g kt kf = some x) :
    (wantR ts g = some true ∧ kt ts = some x) ∨ (wantR ts g = some false ∧ kf ts = some x) := by
  cases g with
  | none => exact .inl ⟨rfl, e⟩
  | some p =>
    obtain ⟨t, b⟩ := p
    simp only [guardK] at e
    split at e
    · rename_i c hc
      have hs : ts.set t (.d (.bool c)) = ts := set_same hc (by simp)
      cases b <;> cases c <;> simp only [cond_true, cond_false, setK_eq, hs] at e
      · exact .inl ⟨by simp only [wantR, hc]; rfl, e⟩
      · exact .inr ⟨by simp only [wantR, hc]; rfl, e⟩
      · exact .inr ⟨by simp only [wantR, hc]; rfl, e⟩
      · exact .inl ⟨by simp only [wantR, hc]; rfl, e⟩
    · rename_i hc
      exact .inr ⟨by simp only [wantR, hc], e⟩
    · cases e

theorem putK_eq (ts : List V) (dst : Option Nat) (v : V) (k : List V → Option ρ) : putK ts dst v k = k (putR ts dst v) := by
  cases dst with
  | none => rfl
  | some t => simp only [putK, putR, setK_eq]

theorem kOps_some (hk : CKOK ck call) : ∀ {l : List KO} {ts : List V} {h : List KB} {K : Ex → List V → List KB → Option ρ} {x : ρ}, kOps ck sp l ts h K = some x →
    ∃ ex ts' h', evOps call sp (l.map (·.o)) ts (raws h) = some (ex, ts', raws h') ∧ K ex ts' h' = some x
  | [], ts, h, K, x, e => ⟨_, ts, h, rfl, e⟩
  | o :: r, ts, h, K, x, e => by
    simp only [kOps] at e
    rcases guardK_some e with ⟨hw, e⟩ | ⟨hw, e⟩
    · obtain ⟨out, h1, h2, e⟩ := kRI_some hk e
      cases out with
      | ret v =>
        simp only [retK, putK_eq] at e
        obtain ⟨ex, ts', h', h3, e⟩ := kOps_some hk e
        exact ⟨ex, ts', h', by simp only [List.map_cons, evOps, hw, h2, h3], e⟩
      | pan v => exact ⟨_, ts, h1, by simp only [List.map_cons, evOps, hw, h2], e⟩
    · simp only [putK_eq] at e
      obtain ⟨ex, ts', h', h3, e⟩ := kOps_some hk e
      exact ⟨ex, ts', h', by simp only [List.map_cons, evOps, hw, h3], e⟩

theorem kLoop_some {f : List V → List KB → (Ex → List V → List KB → Option ρ) → Option ρ} {g : List V → List Blk → Option (Ex × List V × List Blk)} {ti : TI} {dt : List Nat}
    (hf : ∀ ts h K x, f ts h K = some x → ∃ ex ts' h', g ts (raws h) = some (ex, ts', raws h') ∧ K ex ts' h' = some x) :
    ∀ {n : Nat} {ts : List V} {h : List KB} {K : Ex → List V → List KB → Option ρ} {x : ρ}, kLoop f ti dt n ts h K = some x → ∃ ex ts' h', evLoop g ti n ts (raws h) = some (ex, ts', raws h') ∧ K ex ts' h' = some x
  | 0, ts, h, K, x, e => by cases e
  | n + 1, ts, h, K, x, e => by
    simp only [kLoop] at e
    obtain ⟨ex, ts1, h1, h2, e⟩ := hf _ _ _ _ e
    obtain ⟨ex2, ts2, h3, h4, e⟩ := tidyK_some e
    cases ex2 with
    | nor =>
      simp only [seqK] at e
      obtain ⟨ex3, ts3, h5, h6, e⟩ := kLoop_some hf e
      exact ⟨ex3, ts3, h5, by simp only [evLoop, h2, h4, h6], e⟩
    | exit i => exact ⟨_, ts2, h3, by simp only [evLoop, h2, h4], e⟩
    | ret => exact ⟨_, ts2, h3, by simp only [evLoop, h2, h4], e⟩
    | pan v => exact ⟨_, ts2, h3, by simp only [evLoop, h2, h4], e⟩

theorem noteK_some {c : RX} {b : Bool} {ts : List V} {k : List V → Option ρ} {x : ρ} (hc : c.ev ts = .d (.bool b)) (e : noteK c b ts k = some x) : k ts = some x := by
  cases c with
  | t i =>
    simp only [noteK, setK_eq] at e
    rwa [set_same (d := .d (.tup [])) hc (by simp)] at e
  | c d => exact e

theorem kC_some (hk : CKOK ck call) (n : Nat) : ∀ (c : KC) {ts : List V} {h : List KB} {K : Ex → List V → List KB → Option ρ} {x : ρ}, kC ck sp n c ts h K = some x →
    ∃ ex ts' h', evC call sp n c.era ts (raws h) = some (ex, ts', raws h') ∧ K ex ts' h' = some x
  | .skip, ts, h, K, x, e => ⟨_, ts, h, rfl, e⟩
  | .ops l, ts, h, K, x, e => by
    obtain ⟨ex, ts', h', h1, e⟩ := kOps_some hk e
    exact ⟨ex, ts', h', h1, e⟩
  | .par m l, ts, h, K, x, e => by
    simp only [kC, tellK_eq] at e
    obtain ⟨ex, ts', h', h1, e⟩ := kOps_some hk e
    have hl : (l.map (KO.at h.length)).map (·.o) = (l.map (·.o)).map (RO.at h.length) := by simp [List.map_map, Function.comp_def, KO.at]
    have hh : raws (h ++ List.replicate m KB.ghost) = raws h ++ List.replicate m Blk.ghost := by simp [raws, KB.raw]
    rw [hl, hh] at h1
    cases ex with
    | nor => exact ⟨_, ts', h', by simp only [KC.era, evC, show (raws h).length = h.length by simp [raws], h1], e⟩
    | exit i => cases e
    | ret => cases e
    | pan v => cases e
  | .seq a b, ts, h, K, x, e => by
    simp only [kC] at e
    obtain ⟨ex, ts', h', h1, e⟩ := kC_some hk n a e
    cases ex with
    | nor =>
      simp only [seqK] at e
      obtain ⟨ex2, ts2, h2, h3, e⟩ := kC_some hk n b e
      exact ⟨ex2, ts2, h2, by simp only [KC.era, evC, h1, h3], e⟩
    | exit i => exact ⟨_, ts', h', by simp only [KC.era, evC, h1], e⟩
    | ret => exact ⟨_, ts', h', by simp only [KC.era, evC, h1], e⟩
    | pan v => exact ⟨_, ts', h', by simp only [KC.era, evC, h1], e⟩
  | .cond c a b, ts, h, K, x, e => by
    simp only [kC] at e
    obtain ⟨t, ht, e⟩ := vB_some e
    cases t with
    | true =>
      obtain ⟨ex, ts', h', h1, e⟩ := kC_some hk n a (noteK_some ht e)
      exact ⟨ex, ts', h', by simp only [KC.era, evC, ht, h1], e⟩
    | false =>
      obtain ⟨ex, ts', h', h1, e⟩ := kC_some hk n b (noteK_some ht e)
      exact ⟨ex, ts', h', by simp only [KC.era, evC, ht, h1], e⟩
  | .block id c, ts, h, K, x, e => by
    simp only [kC] at e
    obtain ⟨ex, ts', h', h1, e⟩ := kC_some hk n c e
    cases ex with
    | nor => exact ⟨_, ts', h', by simp only [KC.era, evC, h1], e⟩
    | exit i =>
      simp only [blockK] at e
      split at e
      · rename_i hi
        exact ⟨_, ts', h', by simp only [KC.era, evC, h1]; rw [if_pos (by simpa using hi)], e⟩
      · rename_i hi
        exact ⟨_, ts', h', by simp only [KC.era, evC, h1]; rw [if_neg (by simpa using hi)], e⟩
    | ret => exact ⟨_, ts', h', by simp only [KC.era, evC, h1], e⟩
    | pan v => exact ⟨_, ts', h', by simp only [KC.era, evC, h1], e⟩
  | .loop ti dt c, ts, h, K, x, e => by
    simp only [kC] at e
    obtain ⟨ts1, h1, e1, e⟩ := wdsK_some e
    obtain ⟨h2, e2, e⟩ := datK_some e
    obtain ⟨ex, ts', h', h3, e⟩ := kLoop_some (g := evC call sp n c.era) (fun ts h K x e => kC_some hk n c e) e
    refine ⟨ex, ts', h', ?_, e⟩
    simp only [KC.era, evC, e1]
    rw [← e2]; exact h3
  | .tidy ti dt c, ts, h, K, x, e => by
    simp only [kC] at e
    obtain ⟨ex, ts', h', h1, e⟩ := kC_some hk n c e
    obtain ⟨ex2, ts2, h2, h3, e⟩ := tidyK_some e
    exact ⟨ex2, ts2, h2, by simp only [KC.era, evC, h1, h3], e⟩
  | .exit id, ts, h, K, x, e => ⟨_, ts, h, rfl, e⟩
  | .scope c, ts, h, K, x, e => kC_some hk n c e
  | .ret, ts, h, K, x, e => ⟨_, ts, h, rfl, e⟩

end

/-! ### Functions -/

def kRes (ts : List V) (h : List KB) : List RRes → (List V → Option ρ) → Option ρ
  | [], k => k []
  | .tmp t sz :: r, k => kRes ts h r fun vs => k (widO sz (ts.getD t (.d (.tup []))) :: vs)
  | .cell t ag n :: r, k => loadK ag n .no h (ts.getD t (.d (.tup []))) fun v => kRes ts h r fun vs => k (v :: vs)

theorem kRes_some {ts : List V} {h : List KB} : ∀ {l : List RRes} {k : List V → Option ρ} {x : ρ}, kRes ts h l k = some x → ∃ vs, evRes ts (raws h) l = some vs ∧ k vs = some x
  | [], k, x, e => ⟨[], rfl, e⟩
  | .tmp t sz :: r, k, x, e => by
    simp only [kRes] at e
    obtain ⟨vs, h1, e⟩ := kRes_some e
    exact ⟨_, by simp only [evRes, h1, Option.map_some], e⟩
  | .cell t ag n :: r, k, x, e => by
    simp only [kRes] at e
    obtain ⟨u, h1, e⟩ := loadK_some e
    obtain ⟨vs, h2, e⟩ := kRes_some e
    exact ⟨_, by simp only [evRes, h1, h2], e⟩

def kFin (res : List RRes) (n : Nat) (ts : List V) (h : List KB) (K : Out → List KB → Option ρ) : Option ρ :=
  kRes ts h res fun vs => match compact2 n [mkRes vs] h with
    | some (vs', h') => forceL vs' fun vs' => forceH h' fun h' => K (.ret (vs'.headD (.d .undef))) h'
    | none => none

/-- What comes behind a function's code. -/
def endK (res : List RRes) (n : Nat) (K : Out → List KB → Option ρ) (ex : Ex) (ts : List V) (h : List KB) : Option ρ := match ex with
  | .nor => kFin res n ts h K
  | .ret => kFin res n ts h K
  | .pan v => K (.pan v) h
  | .exit _ => none

def kBody (ck : CallK ρ) (sp : SpecT) (n : Nat) (kf : KF) (args : List V) (h : List KB) (K : Out → List KB → Option ρ) : Option ρ :=
  kC ck sp n kf.code (args ++ List.replicate (kf.ntmps - args.length) (.d (.tup []))) h (endK kf.res h.length K)

def kF (body : FuncId → Option KF) (sp : SpecT) (n : Nat) : Nat → CallK ρ
  | 0, _, _, _, _ => none
  | d + 1, f, args, h, K => match body f with
    | some kf => kBody (kF body sp n d) sp n kf args h K
    | none => none

def eraB (body : FuncId → Option KF) (f : FuncId) : Option RF := (body f).map KF.era

theorem kFin_some {res : List RRes} {h0 : List KB} {ts : List V} {h : List KB} {K : Out → List KB → Option ρ} {x : ρ} (e : kFin res h0.length ts h K = some x) :
    ∃ out h', (evRes ts (raws h) res).map (fun vs => (Out.ret ((compact (raws h0).length [mkRes vs] (raws h)).1.headD (.d .undef)), (compact (raws h0).length [mkRes vs] (raws h)).2)) = some (out, raws h') ∧ K out h' = some x := by
  unfold kFin at e
  obtain ⟨vs, h1, e⟩ := kRes_some e
  split at e
  · rename_i vs' h' hc
    rw [forceL_eq, forceH_eq] at e
    have := compact2_some hc
    refine ⟨_, h', ?_, e⟩
    rw [h1, show (raws h0).length = h0.length by simp [raws]]
    simp only [Option.map_some, this]
  · cases e

theorem kF_some (body : FuncId → Option KF) (sp : SpecT) (n : Nat) : ∀ d, CKOK (kF (ρ := ρ) body sp n d) (evF (eraB body) sp n d)
  | 0 => fun f args h K x e => by cases e
  | d + 1 => fun f args h K x e => by
    simp only [kF] at e
    split at e
    · rename_i kf hkf
      unfold kBody at e
      obtain ⟨ex, ts', h', h1, e⟩ := kC_some (kF_some body sp n d) n _ e
      have hb : eraB body f = some kf.era := by simp [eraB, hkf]
      cases ex with
      | nor =>
        obtain ⟨out, h2, h3, e⟩ := kFin_some e
        exact ⟨out, h2, by simp only [evF, hb, evBody]; simp only [KF.era, h1, h3], e⟩
      | ret =>
        obtain ⟨out, h2, h3, e⟩ := kFin_some e
        exact ⟨out, h2, by simp only [evF, hb, evBody]; simp only [KF.era, h1, h3], e⟩
      | exit i => cases e
      | pan v => exact ⟨_, h', by simp only [evF, hb, evBody]; simp only [KF.era, h1], e⟩
    · cases e

/-! ### What a function hands back -/

def firmVK (h : List KB) (v : V) (k : D → List KB → Option ρ) : Option ρ := match v with
  | .sl id off sz n cap => match h[id]? with
    | some (.cells cs) => match toDs cs with
      | some ds => ass (((ds.drop off).take (n * sz)).length == n * sz) (setK h id .absent fun h' => k (.lst sz n ((ds.drop off).take (n * sz)) false) h')
      | none => none
    | some (.dat ds) => ass (((ds.drop off).take (n * sz)).length == n * sz) (setK h id .absent fun h' => k (.lst sz n ((ds.drop off).take (n * sz)) false) h')
    | _ => none
  | .gs id sz n cells => k (.lst sz n cells false) h
  | .d x => k x h
  | _ => none

theorem toDs_map (l : List D) : toDs (l.map V.d) = some l := by
  induction l with
  | nil => rfl
  | cons a l ih => simp [toDs, V.toD, ih]

theorem firmVK_some {h : List KB} {v : V} {k : D → List KB → Option ρ} {x : ρ} (e : firmVK h v k = some x) : ∃ d h', firmV (raws h) v = some (d, raws h') ∧ k d h' = some x := by
  unfold firmVK at e
  split at e
  · split at e
    · rename_i cs hcs
      split at e
      · rename_i ds hds
        obtain ⟨h1, e⟩ := ass_some e
        rw [setK_eq] at e
        refine ⟨_, _, ?_, e⟩
        simp only [firmV, raws_get hcs, KB.raw, hds]
        rw [if_pos (by simpa only [beq_iff_eq] using h1)]
        simp [raws, KB.raw]
      · cases e
    · rename_i cs hcs
      obtain ⟨h1, e⟩ := ass_some e
      rw [setK_eq] at e
      refine ⟨_, _, ?_, e⟩
      simp only [firmV, raws_get hcs, KB.raw, toDs_map]
      rw [if_pos (by simpa only [beq_iff_eq] using h1)]
      simp [raws, KB.raw]
    · cases e
  · exact ⟨_, _, rfl, e⟩
  · exact ⟨_, _, rfl, e⟩
  · cases e

def firmVsK : List V → List KB → (List D → List KB → Option ρ) → Option ρ
  | [], h, k => k [] h
  | v :: vs, h, k => firmVK h v fun d h1 => firmVsK vs h1 fun ds h2 => k (d :: ds) h2

theorem firmVsK_some : ∀ {vs : List V} {h : List KB} {k : List D → List KB → Option ρ} {x : ρ}, firmVsK vs h k = some x → ∃ ds h', firmVs (raws h) vs = some (ds, raws h') ∧ k ds h' = some x
  | [], h, k, x, e => ⟨[], h, rfl, e⟩
  | v :: vs, h, k, x, e => by
    simp only [firmVsK] at e
    obtain ⟨d, h1, e1, e⟩ := firmVK_some e
    obtain ⟨ds, h2, e2, e⟩ := firmVsK_some e
    exact ⟨_, h2, by simp only [firmVs, e1, e2], e⟩

def firmAK (h : List KB) (v : V) (k : D → List KB → Option ρ) : Option ρ := match v with
  | .agg cs => firmVsK cs h fun ds h' => k (.agg ds) h'
  | v => firmVK h v k

theorem firmAK_some {h : List KB} {v : V} {k : D → List KB → Option ρ} {x : ρ} (e : firmAK h v k = some x) : ∃ d h', firmA (raws h) v = some (d, raws h') ∧ k d h' = some x := by
  unfold firmAK at e
  split at e
  · obtain ⟨ds, h', e1, e⟩ := firmVsK_some e
    exact ⟨_, h', by simp only [firmA, e1, Option.map_some], e⟩
  · rename_i hne
    obtain ⟨d, h', e1, e⟩ := firmVK_some e
    refine ⟨d, h', ?_, e⟩
    unfold firmA
    split
    · rename_i cs _; exact absurd rfl (hne _)
    · exact e1

def firmAsK : List V → List KB → (List D → List KB → Option ρ) → Option ρ
  | [], h, k => k [] h
  | v :: vs, h, k => firmAK h v fun d h1 => firmAsK vs h1 fun ds h2 => k (d :: ds) h2

theorem firmAsK_some : ∀ {vs : List V} {h : List KB} {k : List D → List KB → Option ρ} {x : ρ}, firmAsK vs h k = some x → ∃ ds h', firmAs (raws h) vs = some (ds, raws h') ∧ k ds h' = some x
  | [], h, k, x, e => ⟨[], h, rfl, e⟩
  | v :: vs, h, k, x, e => by
    simp only [firmAsK] at e
    obtain ⟨d, h1, e1, e⟩ := firmAK_some e
    obtain ⟨ds, h2, e2, e⟩ := firmAsK_some e
    exact ⟨_, h2, by simp only [firmAs, e1, e2], e⟩

def outK (h : List KB) (v : V) (k : D → Option ρ) : Option ρ := match v with
  | .tup vs => firmAsK vs h fun ds _ => k (.tup ds)
  | v => firmAK h v fun d _ => k d

theorem outK_some {h : List KB} {v : V} {k : D → Option ρ} {x : ρ} (e : outK h v k = some x) : ∃ d, outD (raws h) v = some d ∧ k d = some x := by
  unfold outK at e
  split at e
  · obtain ⟨ds, h', e1, e⟩ := firmAsK_some e
    exact ⟨_, by simp only [outD, e1, Option.map_some], e⟩
  · rename_i hne
    obtain ⟨d, h', e1, e⟩ := firmAK_some e
    refine ⟨d, ?_, e⟩
    unfold outD
    split
    · exact absurd rfl (hne _)
    · simp only [e1, Option.map_some]

end

/-- How a function of plain data ends. -/
def fin (out : Out) (h : List KB) : Option D := match out with
  | .ret v => outK h v some
  | .pan _ => none

/-- A function of plain data, by its run with continuations. -/
theorem pure_k {P : Program} {G : Glob} {isS : FuncId → Bool} {sp : SpecT} {body : FuncId → Option KF} (hbody : BodyOK P G isS (eraB body)) (hspec : SpecOK P G sp)
    (hS : ∀ f, isS f = true → (sp f).isSome = true) (hmix : P.follows .mixedOrders = true) {f : FuncId} {F : Fn} (hc : Callable P f) (n d : Nat)
    (hF : ∀ ds x, F ds = some x → kF body sp n d f (ds.map .d) [] fin = some x) : Pure P G f F := by
  refine pure_run hbody hspec hS hmix hc fun ds x h => ?_
  obtain ⟨out, h', h1, e⟩ := kF_some body sp n d _ _ _ _ _ (hF ds x h)
  cases out with
  | ret v =>
    obtain ⟨y, h2, e⟩ := outK_some (e : outK h' v some = some x)
    injection e with e; subst e
    exact ⟨n, d, v, _, h1, h2⟩
  | pan v => cases e

/-- The bodies' texts are the program's. -/
theorem lookup_map {α β : Type} (g : α → β) : ∀ (L : List (Nat × α)) (f : Nat), (L.lookup f).map g = (L.map fun p => (p.1, g p.2)).lookup f
  | [], f => rfl
  | (k, x) :: L, f => by
    simp only [List.lookup, List.map_cons]
    cases h : f == k with
    | true => rfl
    | false => exact lookup_map g L f

theorem bodyK_of {P : Program} {G : Glob} {isS : FuncId → Bool} {tab : List (FuncId × KF)} (hL : ∀ p ∈ tab, ∃ fn K T, P.funcs[p.1]? = some fn ∧ compF P G isS K T fn = some p.2.era) :
    BodyOK P G isS (eraB fun f => tab.lookup f) := by
  refine bodyOK_of (tab.map fun p => (p.1, p.2.era)) (fun f => by unfold eraB; exact lookup_map KF.era tab f) ?_
  intro p hp
  obtain ⟨q, hq, rfl⟩ := List.mem_map.1 hp
  exact hL q hq

/-- What is seen before a piece of code begins, by its first region. -/
def ktOf (L : List (Nat × TI)) (r : Nat) : Option TI := L.lookup r

abbrev vU : V := .d (.tup [])
abbrev vN : V := .d .undef

section
variable {ρ : Type} {f : List V → List KB → (Ex → List V → List KB → Option ρ) → Option ρ} {K : Ex → List V → List KB → Option ρ} {ts : List V} {h : List KB}
theorem seqK_nor : seqK f K .nor ts h = f ts h K := rfl
theorem seqK_exit {i : Nat} : seqK f K (.exit i) ts h = K (.exit i) ts h := rfl
theorem seqK_ret : seqK f K .ret ts h = K .ret ts h := rfl
theorem seqK_pan {v : V} : seqK f K (.pan v) ts h = K (.pan v) ts h := rfl
end

open Classical in
/-- Some number of rounds is enough. -/
noncomputable def exF (F : Nat → Fn) : Fn := fun xs => if h : ∃ n, F n xs = some (.bool true) then some (.bool true) else none

theorem exF_pure {P : Program} {G : Glob} {f : FuncId} {F : Nat → Fn} (hp : ∀ n, Pure P G f (F n)) : Pure P G f (exF F) := by
  refine ⟨(hp 0).1, fun S w ds vs d i hG hr hd => ?_⟩
  unfold exF at hd
  split at hd
  · rename_i h
    obtain ⟨n, h⟩ := h
    injection hd with hd; subst hd
    exact (hp n).2 S w ds vs _ i hG hr h
  · cases hd

theorem exF_of {F : Nat → Fn} {xs : List D} {n : Nat} (h : F n xs = some (.bool true)) : exF F xs = some (.bool true) := by
  unfold exF; rw [dif_pos ⟨n, h⟩]

/-! ### Readers of what is known -/
section
variable {ρ : Type}
theorem gI_mk {kd : IntKind} {n : Int} {k : Int → Option ρ} : gI kd (.int kd n) k = k n := by simp [gI]
theorem gB_mk {b : Bool} {k : Bool → Option ρ} : gB (.bool b) k = k b := rfl
theorem gS_mk {l : List UInt8} {k : List UInt8 → Option ρ} : gS (.str l) k = k l := rfl
theorem gL_mk {sz n : Nat} {cs : List D} {ex : Bool} {k : Nat → List D → Bool → Option ρ} : gL sz (.lst sz n cs ex) k = k n cs ex := by simp [gL]
theorem gA_mk {cs : List D} {k : List D → Option ρ} : gA (.agg cs) k = k cs := rfl
theorem gT_mk {cs : List D} {k : List D → Option ρ} : gT (.tup cs) k = k cs := rfl
theorem gC_mk {c : D} {cs : List D} {k : D → List D → Option ρ} : gC (c :: cs) k = k c cs := rfl
theorem gF_nil {k0 : Option ρ} {k : TypeId → D → Option ρ} : gF .nili k0 k = k0 := rfl
theorem gF_mk {t : TypeId} {v : D} {k0 : Option ρ} {k : TypeId → D → Option ρ} : gF (.ifc t v) k0 k = k t v := rfl
theorem gE_mk {k : Option ρ} : gE [] k = k := rfl
theorem ass_mk {k : Option ρ} : ass true k = k := rfl
theorem ass_of {c : Bool} {k : Option ρ} (h : c = true) : ass c k = k := by rw [h]; rfl
theorem bind_mk {α β : Type} {x : α} {k : α → Option β} : (some x).bind k = k x := rfl
theorem cond_t {x y : Option ρ} : cond true x y = x := rfl
theorem cond_f {x y : Option ρ} : cond false x y = y := rfl
theorem wrap64_in {n : Int} (h1 : -9223372036854775808 ≤ n) (h2 : n ≤ 9223372036854775807) : IntKind.i64.wrap n = n := IntWalk.i64_in n ⟨h1, h2⟩
end

end Go.Ev
