/- Tables of what is known of functions, and how a function enters one. -/
import Derived.Test.YtgkjmdbjncnlpaaDoorEvU
namespace Go.Ev
set_option linter.unusedVariables false
set_option linter.unusedSimpArgs false

/-- What is kept behind the rounds of loops, by the loops' first regions. -/
def kOf (L : List (Nat × TI)) (r : Nat) : TI := match L.lookup r with | some k => k | none => default

abbrev Fn := List D → Option D

/-- Functions of which something is known; of those of which nothing is known yet, that they answer nothing. -/
def mkSp (isS : FuncId → Bool) (L : List (FuncId × Fn)) : SpecT := fun f => match L.lookup f with
  | some F => some F
  | none => if isS f then some (fun _ => none) else none

def callableB (P : Program) (f : FuncId) : Bool := match P.funcs[f]? with
  | some fn => !(fn.name == "runtime.NumGoroutine") && fn.body.isSome
  | none => false

theorem callable_of {P : Program} {f : FuncId} (h : callableB P f = true) : Callable P f := by
  unfold callableB at h
  split at h
  · rename_i fn hfn
    simp only [Bool.and_eq_true, Bool.not_eq_true'] at h
    refine ⟨fn, hfn, h.1, ?_⟩
    cases q : fn.body with
    | none => rw [q] at h; simp at h
    | some _ => rfl
  · cases h

theorem lookup_mem {α : Type} : ∀ (L : List (FuncId × α)) (f : FuncId) (x : α), L.lookup f = some x → (f, x) ∈ L
  | [], f, x, h => by simp [List.lookup] at h
  | (g, y) :: L, f, x, h => by
    simp only [List.lookup] at h
    split at h
    · rename_i hb
      have : f = g := by simpa using hb
      subst this
      injection h with h; subst h
      exact List.mem_cons_self
    · exact List.mem_cons_of_mem _ (lookup_mem L f x h)

variable {P : Program} {G : Glob} {isS : FuncId → Bool} {sp : SpecT}

theorem mkSp_ok {L : List (FuncId × Fn)} (hc : ∀ f, isS f = true → Callable P f) (hL : ∀ p ∈ L, Pure P G p.1 p.2) : SpecOK P G (mkSp isS L) := by
  intro f F h
  unfold mkSp at h
  split at h
  · rename_i F' hF
    injection h with h; subst h
    exact hL _ (lookup_mem L f _ hF)
  · split at h
    · rename_i hs
      injection h with h; subst h
      exact ⟨hc f hs, fun S w ds vs d _ _ _ hd => by cases hd⟩
    · cases h

theorem mkSp_S (L : List (FuncId × Fn)) (f : FuncId) (h : isS f = true) : (mkSp isS L f).isSome = true := by
  unfold mkSp
  split
  · rfl
  · rw [if_pos h]; rfl

theorem all_cons {L : List (FuncId × Fn)} {f : FuncId} {F : Fn} (h : Pure P G f F) (hL : ∀ p ∈ L, Pure P G p.1 p.2) : ∀ p ∈ (f, F) :: L, Pure P G p.1 p.2 := by
  intro p hp
  rcases List.mem_cons.1 hp with rfl | hp
  · exact h
  · exact hL p hp

theorem all_nil : ∀ p ∈ ([] : List (FuncId × Fn)), Pure P G p.1 p.2 := by intro p hp; cases hp

/-- A function of plain data, by its runs over no memory. -/
theorem pure_run {body : FuncId → Option RF} (hbody : BodyOK P G isS body) (hspec : SpecOK P G sp) (hS : ∀ f, isS f = true → (sp f).isSome = true) (hmix : P.follows .mixedOrders = true)
    {f : FuncId} {F : Fn} (hc : Callable P f)
    (hF : ∀ ds d, F ds = some d → ∃ n k v h', evF body sp n k f (ds.map .d) [] = some (.ret v, h') ∧ outD h' v = some d) : Pure P G f F := by
  refine ⟨hc, fun S w ds vs d i hG hr hd => ?_⟩
  obtain ⟨n, k, v, h', h1, h2⟩ := hF ds d hd
  obtain ⟨_, hC⟩ := evF_ok hbody hspec hS hmix n k _ _ _ _ _ h1
  refine Calls.mono (hC μ0 S w vs i hG (V.rels_d.2 hr)) ?_
  rintro e w' ⟨μ', S', t, x, rfl, r⟩
  obtain ⟨S'', h'', t2, r2⟩ := outD_ok t.inv h2 r
  exact ⟨x, S'', rfl, pure_of_tr (t.trans t2), r2⟩

/-- The body's text is the program's. -/
theorem bodyOK_of {body : FuncId → Option RF} (L : List (FuncId × RF)) (hb : ∀ f, body f = L.lookup f) (hL : ∀ p ∈ L, ∃ fn K T, P.funcs[p.1]? = some fn ∧ compF P G isS K T fn = some p.2) : BodyOK P G isS body := by
  intro f rf h
  rw [hb] at h
  exact hL _ (lookup_mem L f rf h)

end Go.Ev
