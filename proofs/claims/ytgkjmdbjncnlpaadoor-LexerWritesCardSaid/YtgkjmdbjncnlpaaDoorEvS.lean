/- Regions that draw their order. -/
import Derived.Test.YtgkjmdbjncnlpaaDoorEvR
namespace Go.Ev
set_option linter.unusedVariables false
set_option linter.unusedSimpArgs false

/-- What is shown of code behind a run. -/
def CodeOK (P : Program) (G : Glob) (c : Code) (f : List V → List Blk → Option (Ex × List V × List Blk)) : Prop :=
  ∀ (ts : List V) (h : List Blk) (ex : Ex) (ts' : List V) (h' : List Blk), f ts h = some (ex, ts', h') → ∀ (μ : Mu) (S : Stab) (w : World) (a : Act) (Q : Exit → Act → World → Prop),
    Inv μ S h w → GOK G S → V.rels μ S h ts a.tmps.toList →
    (∀ e' a' w' μ' S', Tr μ S h w μ' S' h' w' → V.rels μ' S' h' ts' a'.tmps.toList → a'.defers = a.defers → ExRel μ' S' h' ex e' → Q e' a' w') → c.wp P Q a w

/-! ### Operations see only their slots -/

theorem ev1_congr {e e' : RX → V} (r : ROp) (h : List Blk) (hx : ∀ x ∈ r.xs, e x = e' x) : ev1 r e h = ev1 r e' h := by
  have hp : ∀ parts : List (Nat × Nat × RX), (∀ x ∈ parts.map (·.2.2), e x = e' x) → parts.map (fun (a, b, x) => (a, b, e x)) = parts.map (fun (a, b, x) => (a, b, e' x)) := fun parts hh =>
    List.map_congr_left fun q hq => by
      obtain ⟨a, b, x⟩ := q
      simp only [hh x (List.mem_map.2 ⟨(a, b, x), hq, rfl⟩)]
  have ho : ∀ o : Option RX, (∀ x ∈ optX o, e x = e' x) → optInt e o = optInt e' o := fun o hh => by
    cases o with
    | none => rfl
    | some x => simp only [optInt, hh x (List.mem_singleton.2 rfl)]
  have hl : ∀ l : List RX, (∀ x ∈ l, e x = e' x) → l.map e = l.map e' := fun l hh => List.map_congr_left hh
  cases r
  case build zero parts => simp only [ev1, hp parts hx]
  case bslice sz len zero parts => simp only [ev1, hp parts hx]
  case slS sz x lo hi mx =>
    simp only [ROp.xs, List.mem_cons, List.mem_append] at hx
    simp only [ev1, ho lo (fun y q => hx y (.inr (.inl (.inl q)))), ho hi (fun y q => hx y (.inr (.inl (.inr q)))), ho mx (fun y q => hx y (.inr (.inr q))), hx x (.inl rfl)]
  case slA len sz x lo hi mx =>
    simp only [ROp.xs, List.mem_cons, List.mem_append] at hx
    simp only [ev1, ho lo (fun y q => hx y (.inr (.inl (.inl q)))), ho hi (fun y q => hx y (.inr (.inl (.inr q)))), ho mx (fun y q => hx y (.inr (.inr q))), hx x (.inl rfl)]
  case slT x lo hi =>
    simp only [ROp.xs, List.mem_cons, List.mem_append] at hx
    simp only [ev1, ho lo (fun y q => hx y (.inr (.inl q))), ho hi (fun y q => hx y (.inr (.inr q))), hx x (.inl rfl)]
  case mkf f a b =>
    simp only [ROp.xs, List.mem_append] at hx
    simp only [ev1, hl a (fun y q => hx y (.inl q)), hl b (fun y q => hx y (.inr q))]
  case min l => simp only [ev1, hl l hx]
  case max l => simp only [ev1, hl l hx]
  all_goals simp only [ROp.xs, List.mem_cons, List.not_mem_nil, or_false, forall_eq_or_imp, forall_eq] at hx
  all_goals simp only [ev1, hx]

theorem ev_put {ts : List V} {d : Option Nat} {v : V} (x : RX) (hd : ∀ t, d = some t → t ∉ x.tm) : RX.ev (putR ts d v) x = RX.ev ts x := by
  cases x with
  | c d => rfl
  | t i =>
    cases d with
    | none => rfl
    | some t =>
      have hne : t ≠ i := fun q => hd t rfl (by simp [RX.tm, q])
      simp only [RX.ev, putR, List.getD, List.getElem?_set_ne hne]

variable {call : CallT} {sp : SpecT}

theorem evRI_congr {ts ts' : List V} (ins : RI) (h : List Blk) (hx : ∀ x ∈ ins.xs, RX.ev ts x = RX.ev ts' x) : evRI call sp ins ts h = evRI call sp ins ts' h := by
  cases ins with
  | op r => simp only [evRI, ev1_congr r h hx]
  | call f args =>
    simp only [RI.xs, List.mem_cons] at hx
    have := List.map_congr_left (l := args) (fun x q => hx x (.inr q))
    simp only [evRI, hx f (.inl rfl), this]
  | scall f args =>
    have := List.map_congr_left (l := args) hx
    simp only [evRI, this]
  | pan x => simp only [evRI, hx x (List.mem_singleton.2 rfl)]

theorem reads_put {ts : List V} {d : Option Nat} {v : V} (o : RO) (hd : o.offR d = true) :
    wantR (putR ts d v) o.guard = wantR ts o.guard ∧ ∀ h, evRI call sp o.ins (putR ts d v) h = evRI call sp o.ins ts h := by
  cases d with
  | none => exact ⟨rfl, fun _ => rfl⟩
  | some t =>
    have hno : t ∉ o.reads := by simpa [RO.offR] using hd
    unfold RO.reads at hno
    rw [List.mem_append, not_or] at hno
    refine ⟨?_, fun h => evRI_congr _ _ fun x hx => ev_put x fun t' q q' => hno.1 ?_⟩
    · cases hg : o.guard with
      | none => rfl
      | some tb =>
        obtain ⟨g, b⟩ := tb
        have hne : t ≠ g := fun q => hno.2 (by simp [hg, q])
        simp only [wantR, putR, List.getD, List.getElem?_set_ne hne]
    · injection q with q; subst q; exact List.mem_flatMap.2 ⟨x, hx, q'⟩

/-! ### What operations do to memory -/

theorem ev1_quiet {r : ROp} (hc : (RI.op r).cls = 0) (e : RX → V) (h : List Blk) : ev1 r e h = ((ev1 r e []).map (·.1)).map fun v => (v, h) := by
  cases r <;> simp [RI.cls] at hc <;> simp only [ev1]
  all_goals (repeat' split)
  all_goals simp [Option.map_map, Function.comp_def]

theorem map_pair {α : Type} {f : Option α} {h h1 : List Blk} {v : α} (he : f.map (fun v => (v, h)) = some (v, h1)) : h1 = h ∧ ∀ h' : List Blk, f.map (fun v => (v, h')) = some (v, h') := by
  cases f with
  | none => cases he
  | some x => simp only [Option.map_some, Option.some.injEq, Prod.mk.injEq] at he ⊢; exact ⟨he.2.symm, fun h' => ⟨he.1, trivial⟩⟩

theorem evRI_cls0 {ins : RI} (hc : ins.cls = 0) {ts : List V} {h h1 : List Blk} {out : Out} (he : evRI call sp ins ts h = some (out, h1)) : h1 = h ∧ ∀ h', evRI call sp ins ts h' = some (out, h') := by
  cases ins with
  | op r =>
    have : ∀ h', evRI call sp (.op r) ts h' = ((((ev1 r (RX.ev ts) []).map (·.1)).map Out.ret)).map fun v => (v, h') := fun h' => by
      simp only [evRI, ev1_quiet hc (RX.ev ts) h', Option.map_map]; rfl
    rw [this] at he
    obtain ⟨h2, h3⟩ := map_pair he
    exact ⟨h2, fun h' => by rw [this]; exact h3 h'⟩
  | scall f args =>
    simp only [evRI] at he ⊢
    split at he
    · rename_i F hF
      split at he
      · rename_i ds hds
        simp only [Option.map_eq_some_iff] at he
        obtain ⟨d, hd, e⟩ := he
        injection e with e1 e2
        exact ⟨e2.symm, fun h' => by simp only [hF, hds, hd, Option.map_some, e1]⟩
      · cases he
    · cases he
  | call f args => simp [RI.cls] at hc
  | pan x => simp [RI.cls] at hc

theorem evRI_cls1 {ins : RI} (hc : ins.cls ≤ 1) {ts : List V} {h h1 : List Blk} {out : Out} (he : evRI call sp ins ts h = some (out, h1)) : h1 = h := by
  by_cases h0 : ins.cls = 0
  · exact (evRI_cls0 h0 he).1
  · cases ins with
    | op r =>
      cases r <;> simp [RI.cls] at hc h0
      simp only [evRI, ev1, Option.map_map, Option.map_eq_some_iff] at he
      obtain ⟨v, _, e⟩ := he
      injection e with e1 e2; exact e2.symm
    | scall f args => simp [RI.cls] at h0
    | call f args => simp [RI.cls] at hc
    | pan x => simp [RI.cls] at hc

theorem loadV_app {ag : Bool} {n : Nat} {h l : List Blk} {p v : V} (he : loadV ag n h p = some v) : loadV ag n (h ++ l) p = some v := by
  cases p with
  | ptr id off =>
    simp only [loadV] at he ⊢
    split at he
    · rename_i cs hcs
      rw [List.getElem?_append_left (lt_of_get hcs), hcs]
      exact he
    · cases he
  | d x => cases x <;> first | exact he | (cases he; done)
  | _ => cases he

/-- A reader, and what makes a block. -/
theorem evRI_add {ins ins' : RI} (hc : ins.cls ≤ 1) (hc' : ins'.cls = 3) {ts ts' : List V} {h h1 h2 : List Blk} {out out' : Out} (he : evRI call sp ins ts h = some (out, h1))
    (he' : evRI call sp ins' ts' h = some (out', h2)) : evRI call sp ins ts h2 = some (out, h2) := by
  have key : ∃ b, h2 = h ++ [b] := by
    cases ins' with
    | op r =>
      cases r <;> simp [RI.cls] at hc' <;> simp only [evRI, ev1, Option.map_eq_some_iff] at he'
      case alloc => obtain ⟨_, e0, e⟩ := he'; injection e0 with e0; subst e0; injection e with _ e; exact ⟨_, e.symm⟩
      case box =>
        obtain ⟨⟨v, w⟩, e0, e⟩ := he'
        split at e0
        · injection e0 with e0; injection e0 with _ e1; injection e with _ e; exact ⟨_, by rw [← e, ← e1]⟩
        · cases e0
      case mksl =>
        obtain ⟨⟨v, w⟩, e0, e⟩ := he'
        split at e0
        · split at e0
          · injection e0 with e0; injection e0 with _ e1; injection e with _ e; exact ⟨_, by rw [← e, ← e1]⟩
          · cases e0
        · cases e0
    | call => simp [RI.cls] at hc'
    | scall => simp [RI.cls] at hc'
    | pan => simp [RI.cls] at hc'
  obtain ⟨b, rfl⟩ := key
  by_cases h0 : ins.cls = 0
  · exact (evRI_cls0 h0 he).2 _
  · cases ins with
    | op r =>
      cases r <;> simp [RI.cls] at hc h0
      simp only [evRI, ev1, Option.map_map, Option.map_eq_some_iff] at he ⊢
      obtain ⟨v, e1, e⟩ := he
      injection e with e2 e3
      exact ⟨v, loadV_app e1, by rw [← e2]; rfl⟩
    | scall f args => simp [RI.cls] at h0
    | call f args => simp [RI.cls] at hc
    | pan x => simp [RI.cls] at hc

/-! ### Runs of operations, as steps -/

def stp (call : CallT) (sp : SpecT) (o : RO) (s : List V × List Blk) : Option (List V × List Blk) := match wantR s.1 o.guard with
  | some true => match evRI call sp o.ins s.1 s.2 with
    | some (.ret v, h') => some (putR s.1 o.dst v, h')
    | _ => none
  | some false => some (putR s.1 o.dst (.d (.tup [])), s.2)
  | none => none

def runs (call : CallT) (sp : SpecT) : List RO → List V × List Blk → Option (List V × List Blk)
  | [], s => some s
  | o :: r, s => match stp call sp o s with
    | some s' => runs call sp r s'
    | none => none

theorem runs_of : ∀ (l : List RO) (ts : List V) (h : List Blk) (ts' : List V) (h' : List Blk), evOps call sp l ts h = some (.nor, ts', h') → runs call sp l (ts, h) = some (ts', h')
  | [], ts, h, ts', h', he => by simp only [evOps] at he; injection he with he; injection he with _ e2; simp only [runs, e2]
  | o :: l, ts, h, ts', h', he => by
    simp only [evOps] at he
    simp only [runs, stp]
    split at he
    · rename_i hw
      rw [hw]
      split at he
      · rename_i v h1 hev; simp only [hev]; exact runs_of l _ _ _ _ he
      · injection he with he; injection he with e1 _; cases e1
      · cases he
    · rename_i hw; rw [hw]; exact runs_of l _ _ _ _ he
    · cases he

/-- What a step puts, and where it leaves memory. -/
theorem stp_spec {o : RO} {s s1 : List V × List Blk} (h : stp call sp o s = some s1) :
    ∃ v, s1.1 = putR s.1 o.dst v ∧ ((wantR s.1 o.guard = some true ∧ evRI call sp o.ins s.1 s.2 = some (.ret v, s1.2)) ∨ (wantR s.1 o.guard = some false ∧ v = .d (.tup []) ∧ s1.2 = s.2)) := by
  unfold stp at h
  split at h
  · rename_i hw
    split at h
    · rename_i v h' hev
      injection h with h; subst h
      exact ⟨v, rfl, .inl ⟨hw, hev⟩⟩
    · cases h
  · rename_i hw
    injection h with h; subst h
    exact ⟨_, rfl, .inr ⟨hw, rfl, rfl⟩⟩
  · cases h

theorem stp_of {o : RO} {s : List V × List Blk} {v : V} {h1 : List Blk} (h : (wantR s.1 o.guard = some true ∧ evRI call sp o.ins s.1 s.2 = some (.ret v, h1)) ∨ (wantR s.1 o.guard = some false ∧ v = .d (.tup []) ∧ h1 = s.2)) :
    stp call sp o s = some (putR s.1 o.dst v, h1) := by
  unfold stp
  rcases h with ⟨h1, h2⟩ | ⟨h1, rfl, rfl⟩
  · simp only [h1, h2]
  · simp only [h1]

theorem putR_comm {ts : List V} {x y : RO} (h : x.offW y = true) (u v : V) : putR (putR ts x.dst u) y.dst v = putR (putR ts y.dst v) x.dst u := by
  unfold RO.offW at h
  cases hx : x.dst with
  | none => simp [putR]
  | some a =>
    cases hy : y.dst with
    | none => simp [putR]
    | some b =>
      simp [hx, hy] at h
      simp only [putR]
      exact List.set_comm _ _ h

/-! ### Blocks that were told of, and are made -/

theorem set_gh {h : List Blk} {id k : Nat} {B X : Blk} (hne : k ≠ id) (hg : h[id]? = some .ghost) : (h.set id B).set k X = (h.set k X).set id B ∧ (h.set k X)[id]? = some .ghost :=
  ⟨List.set_comm _ _ (fun q => hne q.symm), by rw [List.getElem?_set_ne hne]; exact hg⟩

theorem app_gh {h : List Blk} {id : Nat} {B X : Blk} (hg : h[id]? = some .ghost) : (h.set id B) ++ [X] = (h ++ [X]).set id B ∧ (h ++ [X])[id]? = some .ghost := by
  have := lt_of_get hg
  exact ⟨by rw [List.set_append_left _ _ this], by rw [List.getElem?_append_left this]; exact hg⟩

theorem loadV_gh {ag : Bool} {n : Nat} {h : List Blk} {id : Nat} {B : Blk} {p v : V} (hg : h[id]? = some .ghost) (e : loadV ag n h p = some v) : loadV ag n (h.set id B) p = some v := by
  unfold loadV at e ⊢
  split at e
  · rename_i k off
    have hne : k ≠ id := by
      intro q; subst q; rw [hg] at e; cases e
    simp only [List.getElem?_set_ne (Ne.symm hne)]
    exact e
  · exact e
  · cases e

theorem storeV_gh {n : Nat} {h h' : List Blk} {id : Nat} {B : Blk} {y p : V} (hg : h[id]? = some .ghost) (e : storeV n h y p = some h') : storeV n (h.set id B) y p = some (h'.set id B) ∧ h'[id]? = some .ghost := by
  unfold storeV at e ⊢
  split at e
  · rename_i k off
    have hne : k ≠ id := by
      intro q; subst q; rw [hg] at e; cases e
    simp only [List.getElem?_set_ne (Ne.symm hne)]
    split at e
    · rename_i cs c h1 h2
      split at e
      · rename_i hc
        injection e with e; subst e
        rw [if_pos hc, (set_gh hne hg).1]
        exact ⟨rfl, (set_gh (B := .absent) hne hg).2⟩
      · cases e
    · cases e
  · cases e

theorem appV_gh {sz bytes : Nat} {h h' : List Blk} {id m : Nat} {B : Blk} {x v : V} {ys : List D} (hg : h[id]? = some .ghost) (e : appV sz bytes h x m ys = some (v, h')) :
    appV sz bytes (h.set id B) x m ys = some (v, h'.set id B) ∧ h'[id]? = some .ghost := by
  unfold appV at e ⊢
  split at e
  · cases e
  · rename_i hc
    rw [if_neg hc]
    split at e
    · split at e
      · rename_i h1
        injection e with e; injection e with e1 e2; subst e1; subst e2
        rw [if_pos h1, List.length_set, (app_gh hg).1]
        exact ⟨rfl, (app_gh (B := .absent) hg).2⟩
      · cases e
    · split at e
      · rename_i h0
        rw [if_pos h0]
        split at e
        · rename_i h1
          injection e with e; injection e with e1 e2; subst e1; subst e2
          rw [if_pos h1]
          exact ⟨rfl, hg⟩
        · rename_i h1
          rw [if_neg h1]
          split at e
          · rename_i h2
            injection e with e; injection e with e1 e2; subst e1; subst e2
            rw [if_pos h2, List.length_set, (app_gh hg).1]
            exact ⟨rfl, (app_gh (B := .absent) hg).2⟩
          · cases e
      · cases e
    · rename_i k sz' n cells
      have hne : k ≠ id := by
        intro q; subst q; rw [hg] at e; cases e
      simp only [List.getElem?_set_ne (Ne.symm hne)]
      split at e
      · split at e
        · rename_i h1
          injection e with e; injection e with e1 e2; subst e1; subst e2
          rw [if_pos h1, (set_gh hne hg).1]
          exact ⟨rfl, (set_gh (B := .absent) hne hg).2⟩
        · cases e
      · cases e
    · cases e

theorem ev1_ghost {r : ROp} {ev : RX → V} {h h1 : List Blk} {v : V} {id : Nat} {B : Blk} (hA : (RI.op r).isA ≠ some id) (hg : h[id]? = some .ghost) (e : ev1 r ev h = some (v, h1)) :
    ev1 r ev (h.set id B) = some (v, h1.set id B) ∧ h1[id]? = some .ghost := by
  have quiet : (RI.op r).cls = 0 → ev1 r ev (h.set id B) = some (v, h1.set id B) ∧ h1[id]? = some .ghost := by
    intro hc
    rw [ev1_quiet hc] at e ⊢
    obtain ⟨q1, q2⟩ := map_pair e
    subst q1
    exact ⟨q2 _, hg⟩
  cases r with
  | load ag n x =>
    simp only [ev1, Option.map_eq_some_iff] at e ⊢
    obtain ⟨u, h2, e⟩ := e
    injection e with e1 e2; subst e1; subst e2
    exact ⟨⟨u, loadV_gh hg h2, rfl⟩, hg⟩
  | store n x y =>
    simp only [ev1, Option.map_eq_some_iff] at e ⊢
    obtain ⟨h2, h3, e⟩ := e
    injection e with e1 e2; subst e1; subst e2
    obtain ⟨q1, q2⟩ := storeV_gh (B := B) hg h3
    exact ⟨⟨_, q1, rfl⟩, q2⟩
  | app sz bytes x y =>
    simp only [ev1] at e ⊢
    split at e
    · exact appV_gh hg e
    · split at e
      · exact appV_gh hg e
      · cases e
  | alloc zero =>
    simp only [ev1] at e ⊢
    injection e with e; injection e with e1 e2; subst e1; subst e2
    rw [List.length_set, (app_gh hg).1]
    exact ⟨rfl, (app_gh (B := .absent) hg).2⟩
  | allocR r z => simp [ev1] at e
  | allocA k zero =>
    have hne : k ≠ id := fun q => hA (by simp [RI.isA, q])
    simp only [ev1, List.getElem?_set_ne (Ne.symm hne)] at e ⊢
    split at e
    · injection e with e; injection e with e1 e2; subst e1; subst e2
      rw [(set_gh hne hg).1]
      exact ⟨rfl, (set_gh (B := .absent) hne hg).2⟩
    · cases e
  | box x =>
    simp only [ev1] at e ⊢
    split at e
    · injection e with e; injection e with e1 e2; subst e1; subst e2
      rw [List.length_set, (app_gh hg).1]
      exact ⟨rfl, (app_gh (B := .absent) hg).2⟩
    · cases e
  | mksl sz bytes zero len cap =>
    simp only [ev1] at e ⊢
    split at e
    · split at e
      · rename_i hc
        injection e with e; injection e with e1 e2; subst e1; subst e2
        rw [if_pos hc, List.length_set, (app_gh hg).1]
        exact ⟨rfl, (app_gh (B := .absent) hg).2⟩
      · cases e
    · cases e
  | _ => exact quiet rfl

theorem evRI_ghost {ins : RI} (hc : ins.isCall = false) {ts : List V} {h h1 : List Blk} {v : V} {id : Nat} {B : Blk} (hA : ins.isA ≠ some id) (hg : h[id]? = some .ghost)
    (e : evRI call sp ins ts h = some (.ret v, h1)) : evRI call sp ins ts (h.set id B) = some (.ret v, h1.set id B) ∧ h1[id]? = some .ghost := by
  cases ins with
  | op r =>
    simp only [evRI, Option.map_eq_some_iff] at e ⊢
    obtain ⟨⟨u, h2⟩, h3, e⟩ := e
    injection e with e1 e2; injection e1 with e1; subst e1; subst e2
    obtain ⟨q1, q2⟩ := ev1_ghost (B := B) hA hg h3
    exact ⟨⟨_, q1, rfl⟩, q2⟩
  | call f args => simp [RI.isCall] at hc
  | scall f args =>
    have h0 : (RI.scall f args).cls = 0 := rfl
    obtain ⟨q1, q2⟩ := evRI_cls0 h0 e
    subst q1
    exact ⟨q2 _, hg⟩
  | pan x =>
    simp only [evRI] at e
    split at e
    · cases e
    · cases e
    · cases e

theorem noghost_set {h : List Blk} {k id : Nat} {X : Blk} (hX : X ≠ .ghost) (hn : h[id]? ≠ some .ghost) : (h.set k X)[id]? ≠ some .ghost := by
  intro q
  rcases get_set q with ⟨_, _, e⟩ | ⟨_, e⟩
  · exact hX e.symm
  · exact hn e

theorem noghost_app {h : List Blk} {id : Nat} {X : Blk} (hX : X ≠ .ghost) (hn : h[id]? ≠ some .ghost) : (h ++ [X])[id]? ≠ some .ghost := by
  intro q
  rcases Nat.lt_or_ge id h.length with g | g
  · rw [List.getElem?_append_left g] at q; exact hn q
  · rw [List.getElem?_append_right g] at q
    cases hq : id - h.length with
    | zero => rw [hq] at q; simp at q; exact hX q
    | succ m => rw [hq] at q; simp at q

/-- Nothing tells of blocks. -/
theorem evRI_noghost {ins : RI} (hc : ins.isCall = false) {ts : List V} {h h1 : List Blk} {v : V} {id : Nat} (hA : ins.isA ≠ some id) (e : evRI call sp ins ts h = some (.ret v, h1)) (hn : h[id]? ≠ some .ghost) : h1[id]? ≠ some .ghost := by
  have quiet : ins.cls = 0 → h1[id]? ≠ some .ghost := fun h0 => by
    obtain ⟨q1, _⟩ := evRI_cls0 h0 e
    rw [q1]; exact hn
  cases ins with
  | op r =>
    simp only [evRI, Option.map_eq_some_iff] at e
    obtain ⟨⟨u, h2⟩, h3, e⟩ := e
    injection e with e1 e2; injection e1 with e1; subst e1; subst e2
    cases r with
    | load ag n x =>
      simp only [ev1, Option.map_eq_some_iff] at h3
      obtain ⟨_, _, h3⟩ := h3
      injection h3 with _ h3; subst h3; exact hn
    | store n x y =>
      simp only [ev1, Option.map_eq_some_iff] at h3
      obtain ⟨h4, h5, h3⟩ := h3
      injection h3 with _ h3; subst h3
      unfold storeV at h5
      split at h5
      · split at h5
        · split at h5
          · injection h5 with h5; subst h5; exact noghost_set (by simp) hn
          · cases h5
        · cases h5
      · cases h5
    | app sz bytes x y =>
      have key : ∀ m ys, appV sz bytes h (RX.ev ts x) m ys = some (u, h2) → h2[id]? ≠ some .ghost := by
        intro m ys h5
        unfold appV at h5
        split at h5
        · cases h5
        · split at h5
          · split at h5
            · injection h5 with h5; injection h5 with _ h5; subst h5; exact noghost_app (by simp) hn
            · cases h5
          · split at h5
            · split at h5
              · injection h5 with h5; injection h5 with _ h5; subst h5; exact hn
              · split at h5
                · injection h5 with h5; injection h5 with _ h5; subst h5; exact noghost_app (by simp) hn
                · cases h5
            · cases h5
          · split at h5
            · split at h5
              · injection h5 with h5; injection h5 with _ h5; subst h5; exact noghost_set (by simp) hn
              · cases h5
            · cases h5
          · cases h5
      simp only [ev1] at h3
      split at h3
      · exact key _ _ h3
      · split at h3
        · exact key _ _ h3
        · cases h3
    | alloc zero =>
      simp only [ev1] at h3
      injection h3 with h3; injection h3 with _ h3; subst h3; exact noghost_app (by simp) hn
    | allocR r z => simp [ev1] at h3
    | allocA k zero =>
      simp only [ev1] at h3
      split at h3
      · injection h3 with h3; injection h3 with _ h3; subst h3; exact noghost_set (by simp) hn
      · cases h3
    | box x =>
      simp only [ev1] at h3
      split at h3
      · injection h3 with h3; injection h3 with _ h3; subst h3; exact noghost_app (by simp) hn
      · cases h3
    | mksl sz bytes zero len cap =>
      simp only [ev1] at h3
      split at h3
      · split at h3
        · injection h3 with h3; injection h3 with _ h3; subst h3; exact noghost_app (by simp) hn
        · cases h3
      · cases h3
    | _ => exact quiet rfl
  | call f args => simp [RI.isCall] at hc
  | scall f args => exact quiet rfl
  | pan x =>
    simp only [evRI] at e
    split at e
    · cases e
    · cases e
    · cases e

/-- What makes a block that was told of does no more. -/
theorem evRI_make {ins : RI} {id : Nat} {ts : List V} {h h1 : List Blk} {v : V} (hA : ins.isA = some id) (e : evRI call sp ins ts h = some (.ret v, h1)) :
    h[id]? = some .ghost ∧ ∃ B, h1 = h.set id B ∧ ∀ h', h'[id]? = some .ghost → evRI call sp ins ts h' = some (.ret v, h'.set id B) := by
  cases ins with
  | op r =>
    cases r with
    | allocA k zero =>
      simp only [RI.isA, Option.some.injEq] at hA
      subst hA
      simp only [evRI, ev1, Option.map_eq_some_iff] at e
      obtain ⟨⟨u, h2⟩, h3, e⟩ := e
      injection e with e1 e2; injection e1 with e1; subst e1; subst e2
      split at h3
      · rename_i hg
        injection h3 with h3; injection h3 with e1 e2; subst e1; subst e2
        exact ⟨hg, _, rfl, fun h' hg' => by simp only [evRI, ev1, hg', Option.map_some]⟩
      · cases h3
    | allocR r z => simp [evRI, ev1] at e
    | _ => simp [RI.isA] at hA
  | _ => simp [RI.isA] at hA

/-! ### A list grows, and cells are read -/

theorem appV_cells {sz bytes : Nat} {h h' : List Blk} {m : Nat} {x v : V} {ys : List D} (e : appV sz bytes h x m ys = some (v, h')) (k : Nat) (cs : List V) :
    h'[k]? = some (.cells cs) ↔ h[k]? = some (.cells cs) := by
  have app : ∀ (X : Blk), (∀ c, X ≠ .cells c) → ((h ++ [X])[k]? = some (.cells cs) ↔ h[k]? = some (.cells cs)) := by
    intro X hX
    rcases Nat.lt_or_ge k h.length with g | g
    · rw [List.getElem?_append_left g]
    · rw [List.getElem?_append_right g, List.getElem?_eq_none g]
      cases hq : k - h.length with
      | zero => simp; exact hX cs
      | succ q => simp
  unfold appV at e
  split at e
  · cases e
  · split at e
    · split at e
      · injection e with e; injection e with _ e; subst e; exact app _ (by simp)
      · cases e
    · split at e
      · split at e
        · injection e with e; injection e with _ e; subst e; rfl
        · split at e
          · injection e with e; injection e with _ e; subst e; exact app _ (by simp)
          · cases e
      · cases e
    · rename_i id sz' n cells
      split at e
      · rename_i htip
        split at e
        · injection e with e; injection e with _ e; subst e
          by_cases q : k = id
          · subst q
            rw [List.getElem?_set_self (lt_of_get htip), htip]; simp
          · rw [List.getElem?_set_ne (Ne.symm q)]
        · cases e
      · cases e
    · cases e

theorem loadV_cells {ag : Bool} {n : Nat} {h h' : List Blk} {p v : V} (hc : ∀ (k : Nat) (cs : List V), h[k]? = some (Blk.cells cs) → h'[k]? = some (Blk.cells cs)) (e : loadV ag n h p = some v) : loadV ag n h' p = some v := by
  unfold loadV at e ⊢
  split at e
  · split at e
    · rename_i cs hcs
      simp only [hc _ _ hcs]
      exact e
    · cases e
  · exact e
  · cases e

theorem app_get {ins : RI} (hA : ins.isApp = true) {ts : List V} {h h1 : List Blk} {v : V} (e : evRI call sp ins ts h = some (.ret v, h1)) (k : Nat) (cs : List V) : h1[k]? = some (.cells cs) ↔ h[k]? = some (.cells cs) := by
  cases ins with
  | op r =>
    cases r with
    | app sz bytes x y =>
      simp only [evRI, ev1, Option.map_eq_some_iff] at e
      obtain ⟨⟨u, h2⟩, h3, e⟩ := e
      injection e with e1 e2; subst e2
      split at h3
      · exact appV_cells h3 k cs
      · split at h3
        · exact appV_cells h3 k cs
        · cases h3
    | _ => simp [RI.isApp] at hA
  | _ => simp [RI.isApp] at hA

theorem load_app {ins : RI} (hL : ins.isLoad = true) {ts : List V} {h h' h1 : List Blk} {v : V} (hc : ∀ (k : Nat) (cs : List V), h[k]? = some (Blk.cells cs) → h'[k]? = some (Blk.cells cs)) (e : evRI call sp ins ts h = some (.ret v, h1)) :
    h1 = h ∧ evRI call sp ins ts h' = some (.ret v, h') := by
  cases ins with
  | op r =>
    cases r with
    | load ag n x =>
      simp only [evRI, ev1, Option.map_eq_some_iff] at e ⊢
      obtain ⟨⟨u, h2⟩, ⟨z, h3, h4⟩, e⟩ := e
      injection h4 with h4 h5; subst h4; subst h5
      injection e with e1 e2; injection e1 with e1; subst e1; subst e2
      exact ⟨rfl, ⟨_, _⟩, ⟨_, loadV_cells hc h3, rfl⟩, rfl⟩
    | _ => simp [RI.isLoad] at hL
  | _ => simp [RI.isLoad] at hL

theorem comm_ok {x y : RO} (hc : x.comm y = true) {s s1 s2 : List V × List Blk} (h1 : stp call sp x s = some s1) (h2 : stp call sp y s1 = some s2) :
    ∃ s3, stp call sp y s = some s3 ∧ stp call sp x s3 = some s2 := by
  simp only [RO.comm, Bool.and_eq_true, Bool.or_eq_true, decide_eq_true_eq, beq_iff_eq] at hc
  obtain ⟨⟨⟨⟨⟨hx2, hy2⟩, hcl⟩, hry⟩, hrx⟩, hww⟩ := hc
  obtain ⟨u, e1, a1⟩ := stp_spec h1
  obtain ⟨v, e2, a2⟩ := stp_spec h2
  rw [e1] at a2 e2
  have ry := reads_put (call := call) (sp := sp) (ts := s.1) (v := u) y hry
  rw [ry.1] at a2
  simp only [ry.2] at a2
  -- memory: what y does at the memory of s
  have key : ∃ h3, ((wantR s.1 y.guard = some true ∧ evRI call sp y.ins s.1 s.2 = some (.ret v, h3)) ∨ (wantR s.1 y.guard = some false ∧ v = .d (.tup []) ∧ h3 = s.2)) ∧
      ((wantR s.1 x.guard = some true ∧ evRI call sp x.ins s.1 h3 = some (.ret u, s2.2)) ∨ (wantR s.1 x.guard = some false ∧ u = .d (.tup []) ∧ s2.2 = h3)) := by
    rcases a1 with ⟨w1, b1⟩ | ⟨w1, rfl, b1⟩
    · rcases a2 with ⟨w2, b2⟩ | ⟨w2, rfl, b2⟩
      · rcases hcl with ((((hcl | hcl) | ⟨hcl1, hcl2 | hcl2⟩) | hearly) | ⟨hL, hA⟩) | ⟨hA, hL⟩
        · obtain ⟨q1, q2⟩ := evRI_cls0 hcl b1
          rw [q1] at b2
          exact ⟨s2.2, .inl ⟨w2, b2⟩, .inl ⟨w1, q2 _⟩⟩
        · obtain ⟨q1, q2⟩ := evRI_cls0 hcl b2
          exact ⟨s.2, .inl ⟨w2, q2 _⟩, .inl ⟨w1, by rw [q1]; exact b1⟩⟩
        · have q1 := evRI_cls1 hcl1 b1
          rw [q1] at b2
          have q2 := evRI_cls1 hcl2 b2
          exact ⟨s.2, .inl ⟨w2, by rw [b2, q2]⟩, .inl ⟨w1, by rw [b1, q1, q2]⟩⟩
        · have q1 := evRI_cls1 hcl1 b1
          rw [q1] at b2
          exact ⟨s2.2, .inl ⟨w2, b2⟩, .inl ⟨w1, evRI_add hcl1 hcl2 b1 b2⟩⟩
        · unfold RI.early at hearly
          split at hearly
          · rename_i id hid
            simp only [Bool.and_eq_true, Bool.not_eq_true', bne_iff_ne, ne_eq] at hearly
            obtain ⟨g1, B, g2, g3⟩ := evRI_make hid b2
            have hgs : s.2[id]? = some .ghost := by
              rcases Option.eq_none_or_eq_some (s.2[id]?) with q | ⟨b, q⟩
              · exact absurd g1 (evRI_noghost hearly.1 hearly.2 b1 (fun q' => by rw [q] at q'; cases q'))
              · by_cases hb : b = .ghost
                · rw [q, hb]
                · exact absurd g1 (evRI_noghost hearly.1 hearly.2 b1 (fun q' => by rw [q] at q'; injection q' with q'; exact hb q'))
            obtain ⟨q1, q2⟩ := evRI_ghost (B := B) hearly.1 hearly.2 hgs b1
            exact ⟨s.2.set id B, .inl ⟨w2, g3 _ hgs⟩, .inl ⟨w1, by rw [g2]; exact q1⟩⟩
          · cases hearly
        · have q1 := (load_app (call := call) (sp := sp) hL (fun _ _ q => q) b1).1
          rw [q1] at b2
          exact ⟨s2.2, .inl ⟨w2, b2⟩, .inl ⟨w1, (load_app hL (fun k cs q => (app_get hA b2 k cs).2 q) b1).2⟩⟩
        · have q1 := (load_app (call := call) (sp := sp) hL (fun _ _ q => q) b2).1
          exact ⟨s.2, .inl ⟨w2, (load_app hL (fun k cs q => (app_get hA b1 k cs).1 q) b2).2⟩, .inl ⟨w1, by rw [q1]; exact b1⟩⟩
      · exact ⟨s.2, .inr ⟨w2, rfl, rfl⟩, .inl ⟨w1, by rw [b2]; exact b1⟩⟩
    · rcases a2 with ⟨w2, b2⟩ | ⟨w2, rfl, b2⟩
      · rw [b1] at b2
        exact ⟨s2.2, .inl ⟨w2, b2⟩, .inr ⟨w1, rfl, rfl⟩⟩
      · exact ⟨s.2, .inr ⟨w2, rfl, rfl⟩, .inr ⟨w1, rfl, by rw [b2, b1]⟩⟩
  obtain ⟨h3, k1, k2⟩ := key
  have rx := reads_put (call := call) (sp := sp) (ts := s.1) (v := v) x hrx
  refine ⟨(putR s.1 y.dst v, h3), stp_of k1, ?_⟩
  have := stp_of (call := call) (sp := sp) (o := x) (s := (putR s.1 y.dst v, h3)) (v := u) (h1 := s2.2) (by
    simp only [rx.1, rx.2]; exact k2)
  rw [this]
  simp only [putR_comm hww u v] at e2
  rw [← e2]

/-- An operation that may go ahead of a row of others. -/
theorem bubble {y : RO} : ∀ (l1 l2 : List RO) {s s' : List V × List Blk}, (∀ x ∈ l1, x.comm y = true) → runs call sp (l1 ++ y :: l2) s = some s' →
    ∃ s1, stp call sp y s = some s1 ∧ runs call sp (l1 ++ l2) s1 = some s'
  | [], l2, s, s', _, h => by
    simp only [List.nil_append, runs] at h ⊢
    split at h
    · rename_i s1 h1; exact ⟨s1, h1, h⟩
    · cases h
  | x :: l1, l2, s, s', hc, h => by
    simp only [List.cons_append, runs] at h ⊢
    split at h
    · rename_i s1 h1
      obtain ⟨s2, h2, h3⟩ := bubble l1 l2 (fun z hz => hc z (List.mem_cons_of_mem _ hz)) h
      obtain ⟨s3, h4, h5⟩ := comm_ok (hc x List.mem_cons_self) h1 h2
      exact ⟨s3, h4, by rw [h5]; exact h3⟩
    · cases h

/-! ### What comes before -/

theorem bef_go (acc : List Nat) (k : Nat) : ∀ (l : List Edge) (s : Nat), (l.foldl (fun s e => if Region.binds .any e then s ||| ((1 <<< e.on) ||| acc.getD e.on 0) else s) s).testBit k = true →
    s.testBit k = true ∨ ∃ e ∈ l, Region.binds .any e = true ∧ (k = e.on ∨ (acc.getD e.on 0).testBit k = true)
  | [], s, h => .inl h
  | e :: l, s, h => by
    rw [List.foldl_cons] at h
    rcases bef_go acc k l _ h with h1 | ⟨e', hm, hb⟩
    · split at h1
      · rename_i hb
        rw [Nat.testBit_or, Nat.testBit_or, Bool.or_eq_true, Bool.or_eq_true] at h1
        rcases h1 with h1 | h1 | h1
        · exact .inl h1
        · refine .inr ⟨e, List.mem_cons_self, hb, .inl ?_⟩
          rw [Nat.one_shiftLeft, Nat.testBit_two_pow] at h1
          have h2 : e.on = k := by simpa using h1
          exact h2.symm
        · exact .inr ⟨e, List.mem_cons_self, hb, .inr h1⟩
      · exact .inl h1
    · exact .inr ⟨e', List.mem_cons_of_mem _ hm, hb⟩

theorem befs_spec (ops : List Oper) : ∀ (l done : List Oper) (acc : List Nat), ops = done ++ l → acc.length = done.length →
    (∀ j k, ((acc.getD j 0).testBit k = true → ∃ o, ops[j]? = some o ∧ ∃ e ∈ o.after.toList, Region.binds .any e = true ∧ (k = e.on ∨ (acc.getD e.on 0).testBit k = true))) →
    ∀ j k, (((befs acc l).getD j 0).testBit k = true → ∃ o, ops[j]? = some o ∧ ∃ e ∈ o.after.toList, Region.binds .any e = true ∧ (k = e.on ∨ ((befs acc l).getD e.on 0).testBit k = true))
  | [], done, acc, _, _, h, j, k, hk => h j k hk
  | o :: l, done, acc, he, hl, h, j, k, hk => by
    simp only [befs] at hk ⊢
    have up : ∀ m : Nat, (acc.getD m 0).testBit k = true → ((acc ++ [bef acc o]).getD m 0).testBit k = true := fun m hm => by
      simp only [List.getD] at hm ⊢
      rcases Nat.lt_or_ge m acc.length with g | g
      · rw [List.getElem?_append_left g]; exact hm
      · rw [List.getElem?_eq_none g] at hm; simp at hm
    refine befs_spec ops l (done ++ [o]) (acc ++ [bef acc o]) (by rw [he]; simp) (by simp [hl]) ?_ j k hk
    intro j k hk
    have up : ∀ m : Nat, (acc.getD m 0).testBit k = true → ((acc ++ [bef acc o]).getD m 0).testBit k = true := fun m hm => by
      simp only [List.getD] at hm ⊢
      rcases Nat.lt_or_ge m acc.length with g | g
      · rw [List.getElem?_append_left g]; exact hm
      · rw [List.getElem?_eq_none g] at hm; simp at hm
    simp only [List.getD] at hk
    rcases Nat.lt_trichotomy j acc.length with g | g | g
    · rw [List.getElem?_append_left g] at hk
      obtain ⟨o', h1, e, h2, h3, h4⟩ := h j k (by simpa [List.getD] using hk)
      exact ⟨o', h1, e, h2, h3, h4.imp id (up _)⟩
    · subst g
      rw [List.getElem?_append_right (Nat.le_refl _)] at hk
      simp only [Nat.sub_self, List.getElem?_cons_zero, Option.getD_some] at hk
      rcases bef_go acc k _ _ hk with h1 | ⟨e, h2, h3, h4⟩
      · exact absurd h1 (by rw [Nat.zero_testBit]; simp)
      · exact ⟨o, by rw [he, hl]; simp, e, h2, h3, h4.imp id (up _)⟩
    · rw [List.getElem?_append_right (by omega), List.getElem?_eq_none (by simp; omega)] at hk
      simp at hk

theorem commAll_spec {b : Nat} {y : RO} : ∀ (l : List RO) (k m : Nat) (x : RO), commAll b y k l = true → l[m]? = some x → b.testBit (k + m) = true ∨ x.comm y = true
  | [], k, m, x, _, h => by simp at h
  | z :: l, k, m, x, hc, h => by
    simp only [commAll, Bool.and_eq_true, Bool.or_eq_true] at hc
    cases m with
    | zero => simp at h; subst h; exact hc.1
    | succ m =>
      rcases commAll_spec l (k + 1) m x hc.2 (by simpa using h) with h1 | h1
      · exact .inl (by rw [show k + (m + 1) = k + 1 + m by omega]; exact h1)
      · exact .inr h1

theorem parGo_spec {rs : List RO} : ∀ (l : List RO) (bs : List Nat) (j i : Nat) (y : RO), parGo rs l bs j = true → l[i]? = some y → commAll (bs.getD i 0) y 0 (rs.take (j + i)) = true
  | [], bs, j, i, y, _, h => by simp at h
  | z :: l, [], j, i, y, hp, h => by simp [parGo] at hp
  | z :: l, b :: bs, j, i, y, hp, h => by
    simp only [parGo, Bool.and_eq_true] at hp
    cases i with
    | zero => simp at h; subst h; simpa using hp.1
    | succ i =>
      have := parGo_spec l bs (j + 1) i y hp.2 (by simpa using h)
      rw [show j + 1 + i = j + (i + 1) by omega] at this
      simpa using this

theorem compOs_len {P : Program} {G : Glob} {isS : FuncId → Bool} {ops : Array Oper} : ∀ (l : List Oper) (rs : List RO), compOs P G isS ops l = some rs → rs.length = l.length
  | [], rs, h => by simp only [compOs] at h; injection h with h; subst h; rfl
  | o :: l, rs, h => by
    simp only [compOs] at h
    split at h
    · rename_i a b h1 h2
      injection h with h; subst h
      simp [compOs_len l b h2]
    · cases h

theorem compOs_get {P : Program} {G : Glob} {isS : FuncId → Bool} {ops : Array Oper} : ∀ (l : List Oper) (rs : List RO) (i : Nat) (o : Oper), compOs P G isS ops l = some rs → l[i]? = some o → ∃ r, rs[i]? = some r ∧ compO P G isS ops o = some r
  | [], rs, i, o, h, hi => by simp at hi
  | z :: l, rs, i, o, h, hi => by
    simp only [compOs] at h
    split at h
    · rename_i a b h1 h2
      injection h with h; subst h
      cases i with
      | zero => simp at hi; subst hi; exact ⟨a, rfl, h1⟩
      | succ i => simpa using compOs_get l b i o h2 (by simpa using hi)
    · cases h

section
variable {P : Program} {G : Glob} {isS : FuncId → Bool}

/-- An operation as it stands in a region that tells of its variables. -/
def Placed (o : Oper) (r r' : RO) : Prop :=
  r' = r ∨ (∃ t z id, o.op = .alloc t ∧ r.ins = .op (.alloc z) ∧ r' = { r with ins := .op (.allocA id z) }) ∨ r'.ins = .pan (.c .undef)

theorem numA_len : ∀ (os : List Oper) (l : List RO) (k : Nat), (numA k os l).length = l.length
  | [], l, k => by cases l <;> rfl
  | o :: os, [], k => rfl
  | o :: os, r :: l, k => by simp [numA, numA_len os l]

theorem numO_placed (k b : Nat) (o : Oper) (r : RO) : Placed o r ((numO k o r).at b) := by
  have keep : (∀ n z, r.ins ≠ .op (.allocR n z)) → r.at b = r := by
    intro h
    unfold RO.at RI.at
    split
    · rename_i n z e; exact absurd e (h n z)
    · rfl
  unfold numO
  split
  · rename_i t z ho hz
    exact .inr (.inl ⟨t, z, b + k, ho, hz, rfl⟩)
  · exact .inr (.inr rfl)
  · exact .inr (.inr rfl)
  · rename_i h1 h2 h3
    refine .inl (keep (fun n z e => ?_))
    first | exact h1 n z e | exact h2 n z e | exact h3 n z e

theorem numA_get (b : Nat) : ∀ (os : List Oper) (l : List RO) (k i : Nat) (o : Oper) (r : RO), os[i]? = some o → l[i]? = some r → ∃ r', ((numA k os l).map (RO.at b))[i]? = some r' ∧ Placed o r r'
  | [], l, k, i, o, r, h, _ => by simp at h
  | o :: os, [], k, i, _, r, _, h => by simp at h
  | o :: os, r :: l, k, 0, o', r', h1, h2 => by
    simp at h1 h2; subst h1; subst h2
    exact ⟨_, rfl, numO_placed k b o r⟩
  | o :: os, r :: l, k, i + 1, o', r', h1, h2 => by
    obtain ⟨q, h3, h4⟩ := numA_get b os l (nextA k o) i o' r' (by simpa using h1) (by simpa using h2)
    exact ⟨q, by simpa [numA] using h3, h4⟩

theorem at_reads (b : Nat) (x : RO) : (x.at b).reads = x.reads := by
  unfold RO.reads RO.at RI.at
  split <;> simp_all [RI.xs, ROp.xs]

theorem at_cls (b : Nat) (x : RO) : (x.at b).ins.cls = x.ins.cls := by
  unfold RO.at RI.at
  split <;> simp_all [RI.cls]

theorem at_call (b : Nat) (x : RO) : (x.at b).ins.isCall = x.ins.isCall := by
  unfold RO.at RI.at
  split <;> simp_all [RI.isCall]

def RI.noA : RI → Bool
  | .op (.allocA ..) => false
  | _ => true

theorem at_load (b : Nat) (x : RO) : (x.at b).ins.isLoad = x.ins.isLoad := by
  unfold RO.at RI.at
  split <;> simp_all [RI.isLoad]

theorem at_app (b : Nat) (x : RO) : (x.at b).ins.isApp = x.ins.isApp := by
  unfold RO.at RI.at
  split <;> simp_all [RI.isApp]

theorem at_isA (b : Nat) (x : RO) (h : x.ins.noA = true) : (x.at b).ins.isA = x.ins.isA.map (b + ·) := by
  unfold RO.at RI.at
  split
  · simp_all [RI.isA]
  · rename_i hne
    cases hx : x.ins with
    | op r =>
      rw [hx] at h
      cases r <;> simp_all [RI.isA, RI.noA]
    | _ => simp [RI.isA]

theorem comm_at (b : Nat) {x y : RO} (hx : x.ins.noA = true) (hy : y.ins.noA = true) (h : x.comm y = true) : (x.at b).comm (y.at b) = true := by
  have hR : ∀ (z u : RO), (z.at b).offR (u.at b).dst = z.offR u.dst := fun z u => by
    have : (u.at b).dst = u.dst := rfl
    rw [this]; unfold RO.offR; rw [at_reads]
  have hE : (x.at b).ins.early (y.at b).ins = x.ins.early y.ins := by
    unfold RI.early
    rw [at_isA b y hy, at_isA b x hx, at_call]
    cases hyA : y.ins.isA with
    | none => rfl
    | some k =>
      cases hxA : x.ins.isA with
      | none => rfl
      | some j =>
        have : (some (b + j) != some (b + k)) = (some j != some k) := by
          rw [Bool.eq_iff_iff]; simp
        simp only [Option.map_some, this]
  unfold RO.comm at h ⊢
  rw [at_cls, at_cls, hE, hR, hR, at_load, at_load, at_app, at_app]
  exact h

theorem numA_noA : ∀ (os : List Oper) (l : List RO) (k : Nat), os.length = l.length → ∀ x ∈ numA k os l, x.ins.noA = true
  | [], l, k, h, x, hx => by
    have : l = [] := List.length_eq_zero_iff.1 (by simpa using h.symm)
    subst this; simp [numA] at hx
  | o :: os, [], k, h, x, hx => by simp at h
  | o :: os, r :: l, k, h, x, hx => by
    simp only [numA, List.mem_cons] at hx
    rcases hx with rfl | hx
    · unfold numO
      split
      · rfl
      · rfl
      · rfl
      · rename_i h1 h2 h3
        cases hr : r.ins with
        | op q =>
          cases q with
          | allocA n z => first | exact absurd hr (h1 n z) | exact absurd hr (h2 n z) | exact absurd hr (h3 n z)
          | _ => rfl
        | _ => rfl
    · exact numA_noA os l _ (by simpa using h) x hx

theorem par_any (hcall : CallOK P G call) (hspec : SpecOK P G sp) (hS : ∀ f, isS f = true → (sp f).isSome = true) {ops : Array Oper} {rs rs' : List RO} {Q : Exit → Act → World → Prop}
    (hrs : compOs P G isS ops ops.toList = some rs) (hln' : rs'.length = rs.length) (hpl : ∀ (j : Nat) o r, ops.toList[j]? = some o → rs[j]? = some r → ∃ r', rs'[j]? = some r' ∧ Placed o r r')
    (hfw : (ops.toList.zipIdx.all fun (o, i) => o.after.toList.all fun e => !Region.binds .any e || e.on < i) = true)
    (hcomm : ∀ (j k : Nat) (y : RO), rs'[j]? = some y → k < j → ((befs [] ops.toList).getD j 0).testBit k = true ∨ (rs'.getD k default).comm y = true) (hnopan : ∀ (j : Nat) (r : RO), rs'[j]? = some r → r.ins ≠ .pan (.c .undef)) {ts' : List V} {h' : List Blk} :
    ∀ (fuel : Nat) (listed : Array Bool) (rem : List Nat) {ts : List V} {h : List Blk} {μ : Mu} {S : Stab} {w : World} {a : Act}, listed.size = ops.size →
      (∀ k, k ∈ rem ↔ k < ops.size ∧ listed.getD k true = false) → rem.Pairwise (· < ·) → (∀ j k, j < ops.size → j ∉ rem → ((befs [] ops.toList).getD j 0).testBit k = true → k ∉ rem) → rem.length ≤ fuel →
      runs call sp (rem.map fun k => rs'.getD k default) (ts, h) = some (ts', h') → Inv μ S h w → GOK G S → V.rels μ S h ts a.tmps.toList →
      (∀ a' w' μ' S', Tr μ S h w μ' S' h' w' → V.rels μ' S' h' ts' a'.tmps.toList → a'.defers = a.defers → Q .normal a' w') → wpAny P .any ops Q fuel listed a w := by
  have hback : ∀ (j : Nat) (o : Oper), ops[j]? = some o → ∀ e ∈ o.after.toList, Region.binds .any e = true → e.on < j := fun j o ho e he hb => by
    have := List.all_eq_true.1 hfw (o, j) (List.mem_zipIdx_iff_getElem?.2 (by simpa using ho))
    have := List.all_eq_true.1 this e he
    simpa [hb] using this
  have hbs := befs_spec ops.toList ops.toList [] [] rfl rfl (fun j k hk => by simp at hk)
  have hln := compOs_len _ _ hrs
  intro fuel
  induction fuel with
  | zero =>
    intro listed rem ts h μ S w a hsz hmem hpw hdn hlen hrun i hG ht hQ
    have hrem : rem = [] := List.length_eq_zero_iff.1 (by omega)
    subst hrem
    refine ⟨?_, ?_⟩
    · refine List.eq_nil_iff_forall_not_mem.2 fun j hj => ?_
      obtain ⟨h0, o, ho, _⟩ := mem_ready.1 hj
      exact absurd ((hmem j).2 ⟨(Array.getElem?_eq_some_iff.1 ho).1, h0⟩) (by simp)
    · simp only [List.map_nil, runs] at hrun
      injection hrun with hrun; injection hrun with e1 e2; subst e1; subst e2
      exact hQ a w μ S (Tr.refl i) ht rfl
  | succ fuel ih =>
    intro listed rem ts h μ S w a hsz hmem hpw hdn hlen hrun i hG ht hQ
    have hlisted : ∀ k, k < ops.size → k ∉ rem → listed.getD k false = true := fun k hk hn => by
      have h1 : ¬ (listed.getD k true = false) := fun q => hn ((hmem k).2 ⟨hk, q⟩)
      have hlt : k < listed.size := by omega
      simp [hlt] at h1 ⊢
      exact h1
    refine ⟨fun hnil => ?_, fun j hj => ?_⟩
    · cases rem with
      | nil =>
        simp only [List.map_nil, runs] at hrun
        injection hrun with hrun; injection hrun with e1 e2; subst e1; subst e2
        exact hQ a w μ S (Tr.refl i) ht rfl
      | cons j rest =>
        exfalso
        obtain ⟨hj1, hj2⟩ := (hmem j).1 List.mem_cons_self
        have ho : ops[j]? = some ops[j] := Array.getElem?_eq_getElem hj1
        have : j ∈ Region.ready .any ops listed := mem_ready.2 ⟨hj2, _, ho, fun e he hb => by
          have hlt := hback j _ ho e (by simpa using he) hb
          refine hlisted e.on (by omega) fun hm => ?_
          rcases List.mem_cons.1 hm with q | q
          · omega
          · have := (List.pairwise_cons.1 hpw).1 e.on q; omega⟩
        rw [hnil] at this; cases this
    · obtain ⟨hj0, o, ho, hall⟩ := mem_ready.1 hj
      have hjlt : j < ops.size := (Array.getElem?_eq_some_iff.1 ho).1
      have hjm : j ∈ rem := (hmem j).2 ⟨hjlt, hj0⟩
      obtain ⟨l1, l2, rfl⟩ := List.append_of_mem hjm
      obtain ⟨r0, hr0, hco⟩ := compOs_get _ _ j o hrs (by simpa using ho)
      obtain ⟨r, hr, hpd⟩ := hpl j o r0 (by simpa using ho) hr0
      have hbj : ∀ k, ((befs [] ops.toList).getD j 0).testBit k = true → k ∉ l1 ++ j :: l2 := fun k hk => by
        obtain ⟨o', h1, e, h2, h3, h4⟩ := hbs j k hk
        have : o' = o := by
          have h5 : ops[j]? = some o' := by simpa using h1
          rw [ho] at h5; injection h5 with h5; exact h5.symm
        subst this
        have h5 := hall e (by simpa using h2) h3
        have hlt : e.on < listed.size := by
          rcases Nat.lt_or_ge e.on listed.size with g | g
          · exact g
          · simp [Array.getElem?_eq_none g] at h5
        have hn : e.on ∉ l1 ++ j :: l2 := fun q => by
          have := ((hmem e.on).1 q).2
          simp [hlt] at this h5
          rw [this] at h5; cases h5
        rcases h4 with rfl | h4
        · exact hn
        · exact hdn e.on k (by omega) hn h4
      rw [List.pairwise_append] at hpw
      obtain ⟨hpw1, hpw2, hpw3⟩ := hpw
      obtain ⟨hpw4, hpw5⟩ := List.pairwise_cons.1 hpw2
      have hcm : ∀ x ∈ l1.map (fun k => rs'.getD k default), x.comm r = true := fun x hx => by
        obtain ⟨k, hk, rfl⟩ := List.mem_map.1 hx
        have hkj : k < j := hpw3 k hk j List.mem_cons_self
        rcases hcomm j k r hr hkj with h2 | h2
        · exact absurd (List.mem_append_left _ hk) (hbj k h2)
        · exact h2
      have hrj : rs'.getD j default = r := by simp [hr]
      rw [List.map_append, List.map_cons, hrj] at hrun
      obtain ⟨⟨ts1, h1⟩, hs1, hs2⟩ := bubble _ _ hcm hrun
      rw [← List.map_append] at hs2
      have hnot : ∀ k, k ∈ l1 ++ l2 ↔ k ∈ l1 ++ j :: l2 ∧ k ≠ j := fun k => by
        simp only [List.mem_append, List.mem_cons]
        constructor
        · rintro (q | q)
          · exact ⟨.inl q, fun e => by have := hpw3 k q j List.mem_cons_self; omega⟩
          · exact ⟨.inr (.inr q), fun e => by have := hpw4 k q; omega⟩
        · rintro ⟨q | q | q, hne⟩
          · exact .inl q
          · exact absurd q hne
          · exact .inr q
      have next : ∀ (μ1 : Mu) (S1 : Stab) (w1 : World) (a1 : Act), Tr μ S h w μ1 S1 h1 w1 → V.rels μ1 S1 h1 ts1 a1.tmps.toList → a1.defers = a.defers →
          wpAny P .any ops Q fuel (listed.setIfInBounds j true) a1 w1 := fun μ1 S1 w1 a1 t1 r1 d1 => by
        refine ih (listed.setIfInBounds j true) (l1 ++ l2) (by simpa using hsz) (fun k => ?_) ?_ (fun m k hm hmn hk => ?_) ?_ hs2 t1.inv (hG.mono t1.kp.sub) r1
          (fun a' w' μ' S' t r d => hQ a' w' μ' S' (t1.trans t) r (d.trans d1))
        · rw [hnot, hmem]
          by_cases hkj : k = j
          · subst hkj
            have : k < listed.size := by omega
            simp [this]
          · rw [getD_set_ne true (Ne.symm hkj)]
            exact ⟨fun q => q.1, fun q => ⟨q, hkj⟩⟩
        · rw [List.pairwise_append]
          exact ⟨hpw1, hpw5, fun x hx y hy => hpw3 x hx y (List.mem_cons_of_mem _ hy)⟩
        · intro hc
          have hc1 := (hnot k).1 hc
          by_cases hmj : m = j
          · subst hmj; exact hbj k hk hc1.1
          · exact hdn m k hm (fun q => hmn ((hnot m).2 ⟨q, hmj⟩)) hk hc1.1
        · simp at hlen ⊢; omega
      obtain ⟨v, e1, hcase⟩ := stp_spec hs1
      unfold compO at hco
      split at hco
      · rename_i ri g hri hg
        injection hco with hco; subst hco
        unfold wpOp
        simp only [ho]
        rcases hpd with rfl | ⟨ty, z, id, hop, hz, rfl⟩ | hpan
        · simp only at e1 hcase
          rcases hcase with ⟨hw, hev⟩ | ⟨hw, rfl, hh⟩
          · rw [if_pos (want_ok hg hw ht)]
            left
            refine evRI_ok hcall hspec hS hri hev i hG ht ?_ ?_
            · intro v' e μ' S' w' x t r'
              injection e with e; subst e
              refine next μ' S' w' _ t ?_ (by cases o.dst <;> rfl)
              rw [e1]
              exact put_rels (V.rels_mono t.kp _ _ ht) o.dst r'
            · intro v' e; cases e
          · rw [if_neg (by rw [want_ok hg hw ht]; simp)]
            subst hh
            refine next μ S w _ (Tr.refl i) ?_ (by cases o.dst <;> rfl)
            rw [e1]
            exact put_rels ht o.dst ⟨[], rfl, rfl⟩
        · simp only at e1 hcase hz
          subst hz
          rcases hcase with ⟨hw, hev⟩ | ⟨hw, rfl, hh⟩
          · rw [if_pos (want_ok hg hw ht)]
            left
            obtain ⟨hgh, _⟩ := evRI_make (id := id) rfl hev
            have hcop : compOp P G o.op = some (.alloc z) := by
              rw [hop] at hri ⊢
              simp only [compRI, Option.map_eq_some_iff] at hri
              obtain ⟨q, h5, h6⟩ := hri
              injection h6 with h6; subst h6; exact h5
            obtain ⟨nx, x, μ', S', w', g1, g2, g3, g4⟩ := make_ok (ρ := a.eval) i hop hcop hgh
            have hv : v = .ptr id 0 ∧ h1 = h.set id (.cells (z.map .d)) := by
              simp only [evRI, ev1, hgh, Option.map_some] at hev
              injection hev with hev; injection hev with q1 q2; injection q1 with q1
              exact ⟨q1.symm, q2.symm⟩
            have hfin := next μ' S' w' (a.put o.dst x) (by rw [hv.2]; exact g3) (by
              rw [e1, hv.1, hv.2]
              exact put_rels (V.rels_mono g3.kp _ _ ht) o.dst g4) (by cases o.dst <;> rfl)
            unfold Oper.wp
            rw [g1]
            rcases g2 with rfl | ⟨rfl, rfl⟩
            · exact hfin
            · exact hfin
          · rw [if_neg (by rw [want_ok hg hw ht]; simp)]
            subst hh
            refine next μ S w _ (Tr.refl i) ?_ (by cases o.dst <;> rfl)
            rw [e1]
            exact put_rels ht o.dst ⟨[], rfl, rfl⟩
        · exact absurd hpan (hnopan j r hr)
      · cases hco

theorem par_ok (hcall : CallOK P G call) (hspec : SpecOK P G sp) (hS : ∀ f, isS f = true → (sp f).isSome = true) (hmix : P.follows .mixedOrders = true) {id : Nat} {ops : Array Oper} {rs : List RO}
    (hrs : compOs P G isS ops ops.toList = some rs) (hp : parOk ops (numA 0 ops.toList rs) = true) {ts ts' : List V} {h h' : List Blk} {n : Nat}
    (hev : evOps call sp ((numA 0 ops.toList rs).map (RO.at h.length)) ts (h ++ List.replicate n .ghost) = some (.nor, ts', h'))
    {μ : Mu} {S : Stab} {w : World} {a : Act} {Q : Exit → Act → World → Prop} (i : Inv μ S h w) (hG : GOK G S) (ht : V.rels μ S h ts a.tmps.toList)
    (hQ : ∀ e' a' w' μ' S', Tr μ S h w μ' S' h' w' → V.rels μ' S' h' ts' a'.tmps.toList → a'.defers = a.defers → ExRel μ' S' h' .nor e' → Q e' a' w') : (Code.region id ops true).wp P Q a w := by
  have td0 : Tr μ S h w μ S h { w with drawn := w.drawn + 1 } := tr_drew i
  have td := td0.trans (tr_tell td0.inv n)
  refine wp_region_any hmix ?_
  have hln := compOs_len _ _ hrs
  have hln2 : (numA 0 ops.toList rs).length = rs.length := numA_len _ _ _
  have hln' : ((numA 0 ops.toList rs).map (RO.at h.length)).length = rs.length := by rw [List.length_map, hln2]
  simp only [parOk, Bool.and_eq_true] at hp
  obtain ⟨⟨hfw, hcl⟩, hgo⟩ := hp
  have hlist : (List.range ops.size).map (fun k => ((numA 0 ops.toList rs).map (RO.at h.length)).getD k default) = (numA 0 ops.toList rs).map (RO.at h.length) := by
    apply List.ext_getElem?
    intro k
    rcases Nat.lt_or_ge k ops.size with g | g
    · have : k < ((numA 0 ops.toList rs).map (RO.at h.length)).length := by rw [hln', hln]; simpa using g
      rw [List.getElem?_map, List.getElem?_range g, Option.map_some, List.getD_eq_getElem?_getD, List.getElem?_eq_getElem this]; rfl
    · have h1 : ((numA 0 ops.toList rs).map (RO.at h.length)).length ≤ k := by rw [hln', hln]; simpa using g
      rw [List.getElem?_eq_none h1, List.getElem?_eq_none (by simpa using g)]
  refine par_any hcall hspec hS hrs hln' (fun j o r h1 h2 => numA_get _ _ _ _ _ o r h1 h2) hfw (fun j k y hy hk => ?_) (fun j r hr hpan => ?_) ops.size _ (List.range ops.size) (ts' := ts') (h' := h') (by simp) (fun k => ?_) List.pairwise_lt_range (fun j k hj hn => ?_) (by simp)
    (by rw [hlist]; exact runs_of _ _ _ _ _ hev) td.inv (hG.mono td.kp.sub) (V.rels_mono td.kp _ _ ht) (fun a' w' μ' S' t r d => hQ .normal a' w' μ' S' (td.trans t) r d rfl)
  · rw [List.getElem?_map, Option.map_eq_some_iff] at hy
    obtain ⟨y0, hy0, rfl⟩ := hy
    have hkl : k < (numA 0 ops.toList rs).length := by have := lt_of_get hy0; omega
    have hkm : k < ((numA 0 ops.toList rs).map (RO.at h.length)).length := by simpa using hkl
    have hx : ((numA 0 ops.toList rs).map (RO.at h.length)).getD k default = ((numA 0 ops.toList rs)[k]).at h.length := by
      rw [List.getD_eq_getElem?_getD, List.getElem?_eq_getElem hkm]; simp
    rw [hx]
    have hno := numA_noA ops.toList rs 0 hln.symm
    have h1 := parGo_spec (numA 0 ops.toList rs) _ 0 j y0 hgo hy0
    rcases commAll_spec _ 0 k (numA 0 ops.toList rs)[k] h1 (by
      rw [List.getElem?_take, if_pos (by omega)]
      simp [List.getElem?_eq_getElem hkl]) with h2 | h2
    · rw [Nat.zero_add] at h2; exact .inl h2
    · exact .inr (comm_at _ (hno _ (List.getElem_mem hkl)) (hno _ (List.mem_of_getElem? hy0)) h2)
  · rw [List.getElem?_map, Option.map_eq_some_iff] at hr
    obtain ⟨y0, hy0, rfl⟩ := hr
    have := List.all_eq_true.1 hcl y0 (List.mem_of_getElem? hy0)
    have hc : (RI.pan (.c .undef)).cls = y0.ins.cls := by rw [← hpan]; exact at_cls h.length y0
    have hc4 : (RI.pan (.c .undef)).cls = 4 := rfl
    rw [← hc, hc4] at this
    simp at this
  · simp only [List.mem_range]
    constructor
    · intro q; exact ⟨q, by simp [q]⟩
    · intro q; exact q.1
  · exact absurd (List.mem_range.2 hj) hn

end
end Go.Ev
