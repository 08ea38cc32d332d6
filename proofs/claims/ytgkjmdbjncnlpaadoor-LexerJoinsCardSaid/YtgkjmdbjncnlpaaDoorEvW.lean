/- From a function of plain data that answers true to the contract of a row. -/
import Derived.Test.YtgkjmdbjncnlpaaDoorEvV
import Derived.ProofKit
import Derived.JoinedCond
namespace Go.Ev
set_option linter.unusedVariables false
set_option linter.unusedSimpArgs false
open Go.ChangeShapes Go.WideShapes Go.ChangeAt Go.RowKit

def Ty.ag : Ty → Bool
  | .st _ | .arr _ _ => true
  | _ => false

/-- A reading of an argument, and the argument. -/
def Ty.Arg {H : Type} (ty : Ty) (d : DataW H) (x : D) : Prop := ∃ ds, ty.Is d ds ∧ (if ty.ag then x = .agg ds else ds = [x])

def Ty.Args {H : Type} : List Ty → List (DataW H) → List D → Prop
  | [], ds, xs => ds = [] ∧ xs = []
  | t :: ts, ds, xs => ∃ d dr x xr, ds = d :: dr ∧ xs = x :: xr ∧ t.Arg d x ∧ Ty.Args ts dr xr

def Ty.fitA (P : Program) : List Ty → List TypeId → Bool
  | [], [] => true
  | t :: ts, u :: us => t.fits P u && P.readableRec u && (u < P.types.size) && Ty.fitA P ts us
  | _, _ => false

section
variable {H : Type} {enc : TypeId × Value → H} {P : Program} {W : World}

theorem arg_is {ty : Ty} {t : TypeId} {v : Value} {d : DataW H} {ps : List MemPlace} {base : Nat} (hf : ty.fits P t = true) (hv : Value.okWide P W .any base t v)
    (h : DataW.Trod enc P W 0 (fun _ => true) true t v d ps) : ∃ x, ty.Arg d x ∧ D.rel (stab W) x v := by
  obtain ⟨fuel, h⟩ := h
  obtain ⟨ds, r, q, hl, hc⟩ := trod_is ty t _ fuel _ hf h
  have sing : ty.n = 1 → (∀ cs, v ≠ .agg cs) → ty.ag = false → ∃ x, ty.Arg d x ∧ D.rel (stab W) x v := by
    intro hn hna hag
    have hcs : v.cells.toList = [v] := by
      cases v <;> first | rfl | exact absurd rfl (hna _)
    rw [hcs] at q
    obtain ⟨x, rfl⟩ : ∃ x, ds = [x] := List.length_eq_one_iff.1 (by rw [hl, hn])
    obtain ⟨u, ws, e, r0, r1⟩ := q
    injection e with e1 e2; subst e1
    exact ⟨x, ⟨[x], r, by simp [hag]⟩, r0⟩
  have agg : (∃ cs, v = .agg cs) → ty.ag = true → ∃ x, ty.Arg d x ∧ D.rel (stab W) x v := by
    rintro ⟨cs, rfl⟩ hag
    exact ⟨.agg ds, ⟨ds, r, by simp [hag]⟩, cs.toList, by simp, q⟩
  unfold Value.okWide at hv
  cases ty with
  | bool | str =>
    unfold Ty.fits at hf; split at hf
    · rename_i hu
      rw [hu] at hv
      refine sing rfl ?_ rfl
      rintro cs rfl
      simp [Cell.okWide, Cell.ok, hu] at hv
    · cases hf
  | int k | sl e | ptr e =>
    unfold Ty.fits at hf; split at hf
    · rename_i _ hu
      rw [hu] at hv
      refine sing rfl ?_ rfl
      rintro cs rfl
      simp [Cell.okWide, Cell.ok, hu] at hv
    · cases hf
  | st fs =>
    unfold Ty.fits at hf; split at hf
    · rename_i _ hu
      rw [hu] at hv
      obtain ⟨cs, rfl, _⟩ := hv
      exact agg ⟨cs, rfl⟩ rfl
    · cases hf
  | arr n e =>
    unfold Ty.fits at hf; split at hf
    · rename_i _ _ hu
      rw [hu] at hv
      obtain ⟨cs, rfl, _⟩ := hv
      exact agg ⟨cs, rfl⟩ rfl
    · cases hf

theorem args_is : ∀ (tys : List Ty) (ts : List TypeId) (vs : List Value) (ds : List (DataW H)) (ps : List MemPlace), Ty.fitA P tys ts = true →
    (∀ (j : Nat) t v, ts[j]? = some t → vs[j]? = some v → ∃ base, Value.okWide P W .any base t v) → DataW.TrodAll enc P W 0 (fun _ => true) true ts vs ds ps →
    ∃ xs, Ty.Args tys ds xs ∧ D.rels (stab W) xs vs
  | [], [], vs, ds, ps, _, _, h => by
    obtain ⟨rfl, rfl, rfl⟩ := trodAll_nil h
    exact ⟨[], ⟨rfl, rfl⟩, rfl⟩
  | ty :: tys, t :: ts, vs, ds, ps, hf, hv, h => by
    simp only [Ty.fitA, Bool.and_eq_true] at hf
    obtain ⟨v, vr, d, dr, p, q, rfl, rfl, rfl, h1, h2⟩ := trodAll_cons h
    obtain ⟨b, hb⟩ := hv 0 t v rfl rfl
    obtain ⟨x, k1, k2⟩ := arg_is hf.1.1.1 hb h1
    obtain ⟨xs, k3, k4⟩ := args_is tys ts vr dr q hf.2 (fun j t v e1 e2 => hv (j + 1) t v (by simpa using e1) (by simpa using e2)) h2
    exact ⟨x :: xs, ⟨d, dr, x, xs, rfl, rfl, k1, k3⟩, v, vr, rfl, k2, k4⟩
  | [], _ :: _, _, _, _, hf, _, _ => by simp [Ty.fitA] at hf
  | _ :: _, [], _, _, _, hf, _, _ => by simp [Ty.fitA] at hf

/-- The arguments read behind the call as they did before. -/
theorem args_kept (hl : laidOutB P = true) {W' : World} (hb : Below W.heap.size W W') : ∀ (tys : List Ty) (ts : List TypeId) (vs : List Value) (ds : List (DataW H)) (ps : List MemPlace), Ty.fitA P tys ts = true →
    DataW.TrodAll enc P W 0 (fun _ => true) true ts vs ds ps → (∀ x ∈ ps, x.block < W.heap.size) → DataW.TrodAll enc P W' 0 (fun b => decide (b < W.heap.size)) true ts vs ds ps
  | [], [], vs, ds, ps, _, h, _ => by
    obtain ⟨rfl, rfl, rfl⟩ := trodAll_nil h
    exact trodAll_mk0
  | ty :: tys, t :: ts, vs, ds, ps, hf, h, hlt => by
    simp only [Ty.fitA, Bool.and_eq_true, decide_eq_true_eq] at hf
    obtain ⟨v, vr, d, dr, p, q, rfl, rfl, rfl, h1, h2⟩ := trodAll_cons h
    exact trodAll_cons_mk (Below.trod hl hf.1.1.2 hf.1.2 h1 hb (fun x hx => hlt x (List.mem_append_left _ hx))) (args_kept hl hb tys ts vr dr q hf.2 h2 (fun x hx => hlt x (List.mem_append_right _ hx)))
  | [], _ :: _, _, _, _, hf, _, _ => by simp [Ty.fitA] at hf
  | _ :: _, [], _, _, _, hf, _, _ => by simp [Ty.fitA] at hf

theorem below_of {S S' : Stab} {W W' : World} (t : Tr μ0 S [] W μ0 S' [] W') : Below W.heap.size W W' :=
  ⟨t.os, t.tape, t.output, t.size, fun k hk => t.frame k hk (fun ⟨i, x, e, _⟩ => by simp at e)⟩

/-- No variable of a package is read. -/
def G0 : Glob := fun _ => none

theorem G0_ok (S : Stab) : GOK G0 S := fun g cs e => by cases e

/-- The contract of a row without variables: 'whatever the input: true; the input reads as it did'. -/
theorem contract_of {f : FuncId} {fn : Func} {s : ChangeSpec} {apart fresh handsOn : Bool} {tys : List Ty} {tb : TypeId} {F : List D → Option D}
    (hl : laidOutB P = true) (hf : Ty.fitA P tys fn.params.toList = true) (hr : fn.resultTypes = #[tb]) (hb : P.underlying tb = some .bool) (hv : s.vars = [])
    (hp : Pure P G0 f F) {args : Array Value} {ds gs : List (DataW H)} {before : List MemPlace} {base : Nat}
    (hs : (s.fn H (ds ++ gs)).results = [.lit (.bool true)] ∧ (s.fn H (ds ++ gs)).args = ds ∧ (s.fn H (ds ++ gs)).vars = [])
    (hF : ∀ xs : List D, Ty.Args tys ds xs → F xs = some (.bool true))
    (hval : ∀ (j : Nat) t v, fn.params[j]? = some t → args[j]? = some v → Value.okWide P W .any base t v)
    (hW : DataW.Whole enc P fn.params.toList s.vars apart W args.toList ds gs before) :
    Calls P f args W fun e W' => ∃ v, e = .returned v ∧ s.post enc P fn apart fresh handsOn false W args v W' := by
  have hlt : ∀ p ∈ before, p.block < W.heap.size := fun p hp => by simpa using hW.lt p hp
  have hW' := hW
  obtain ⟨p, q, hA, hV, rfl, hfz, hnd⟩ := hW
  rw [hv] at hV
  obtain ⟨rfl, rfl⟩ := trodVars_none hV
  obtain ⟨xs, k1, k2⟩ := args_is tys _ _ _ _ hf (fun j t v e1 e2 => ⟨base, hval j t v (by simpa using e1) (by simpa using e2)⟩) hA
  have := hp.2 (stab W) W xs args.toList _ (stab_inv W) (G0_ok _) k2 (hF xs k1)
  refine Calls.mono this ?_
  rintro e W' ⟨v, S', rfl, t, r⟩
  have hvb : v = .bool true := r
  subst hvb
  refine ⟨_, rfl, ds, [], p ++ [], [], p, [], hW', ?_, ?_, ?_, (below_of t).frame _, fun h => by cases h⟩
  · rw [hr, hs.1]
    exact trodAll_cons_mk (shut_bool hb _) trodAll_mk0
  · rw [hs.2.1]
    exact args_kept hl (below_of t) tys _ _ _ _ hf hA (fun x hx => hlt x (by simpa using hx))
  · rw [hs.2.2, hv]; rfl

end
/-! ### Readings of arguments -/

theorem arg_int {H : Type} {d : DataW H} {x : D} {k : IntKind} (h : (Ty.int k).Arg d x) : ∃ n, x = .int k n ∧ (Lit.int k n).wf = true := by
  obtain ⟨ds, ⟨n, rfl, rfl, w⟩, h2⟩ := h
  simp [Ty.ag] at h2
  exact ⟨n, h2.symm, w⟩

theorem arg_bool {H : Type} {d : DataW H} {x : D} (h : Ty.bool.Arg d x) : ∃ n, x = .bool n := by
  obtain ⟨ds, ⟨n, rfl, rfl⟩, h2⟩ := h
  simp [Ty.ag] at h2
  exact ⟨n, h2.symm⟩

theorem arg_str {H : Type} {d : DataW H} {x : D} (h : Ty.str.Arg d x) : ∃ l, x = .str l ∧ l.length ≤ maxLen := by
  obtain ⟨ds, ⟨n, rfl, rfl, w⟩, h2⟩ := h
  simp [Ty.ag] at h2
  exact ⟨n, h2.symm, w⟩

theorem i64_wf {n : Int} (h : (Lit.int .i64 n).wf = true) : -9223372036854775808 ≤ n ∧ n ≤ 9223372036854775807 := by
  have e1 : IntKind.i64.min = -9223372036854775808 := rfl
  have e2 : IntKind.i64.max = 9223372036854775807 := rfl
  simpa [Lit.wf, e1, e2] using h

theorem u8_wf {n : Int} (h : (Lit.int .u8 n).wf = true) : 0 ≤ n ∧ n ≤ 255 := by
  have e1 : IntKind.u8.min = 0 := rfl
  have e2 : IntKind.u8.max = 255 := rfl
  simpa [Lit.wf, e1, e2] using h

theorem u16_wf {n : Int} (h : (Lit.int .u16 n).wf = true) : 0 ≤ n ∧ n ≤ 65535 := by
  have e1 : IntKind.u16.min = 0 := rfl
  have e2 : IntKind.u16.max = 65535 := rfl
  simpa [Lit.wf, e1, e2] using h

end Go.Ev
