/- The functions of a program do what the abstract run says; functions of plain data. -/
import Derived.Test.YtgkjmdbjncnlpaaDoorEvT
namespace Go.Ev
set_option linter.unusedVariables false
set_option linter.unusedSimpArgs false

section
variable {P : Program} {G : Glob} {isS : FuncId → Bool} {call : CallT} {sp : SpecT} {μ : Mu} {S : Stab} {h : List Blk} {w : World}

def resOne (tmps : Array Value) : ResultVar → Sem Value
  | .tmp t => pure (tmps.getD t undef)
  | .cell a t => do loadVar t (← asAddr (tmps.getD a undef))

theorem getD_rel {ts : List V} {tmps : Array Value} (ht : V.rels μ S h ts tmps.toList) (t : Nat) : V.rel μ S h (ts.getD t (.d (.tup []))) (tmps.getD t undef) := by
  have := (reads_of (G := fun _ => none) (a := { tmps := tmps, defers := [] }) (μ := μ) (S := S) (h := h) (fun g cs e => by cases e) ht).rd (.tmp t) (.t t) rfl
  exact this

theorem loadV_ptr {ag : Bool} {n : Nat} {u v : V} {z : Value} (h4 : loadV ag n h u = some v) (hz : V.rel μ S h u z) : ∃ ad, z = .pointer (some ad) := by
  unfold loadV at h4
  split at h4
  · obtain ⟨_, _, e⟩ := hz; exact ⟨_, e⟩
  · obtain ⟨b, o, e, _⟩ := hz; exact ⟨_, e⟩
  · cases h4

theorem widO_rel {sz : Option Nat} {v : V} {x : Value} (r : V.rel μ S h v x) : V.rel μ S h (widO sz v) x := by
  unfold widO
  split
  · exact widV_rel r
  · exact r

theorem evRes_ok (i : Inv μ S h w) {ts : List V} {tmps : Array Value} (ht : V.rels μ S h ts tmps.toList) : ∀ (rv : List ResultVar) (tys : List TypeId) (rr : List RRes) (vs : List V), compRes P rv tys = some rr → evRes ts h rr = some vs →
    ∃ xs : List Value, (rv.mapM (resOne tmps)).run P w = .ok xs w ∧ V.rels μ S h vs xs
  | [], tys, rr, vs, hc, he => by
    simp only [compRes, Option.some.injEq] at hc; subst hc
    simp only [evRes, Option.some.injEq] at he; subst he
    exact ⟨[], by simp, rfl⟩
  | .tmp t :: r, tys, rr, vs, hc, he => by
    simp only [compRes, Option.map_eq_some_iff] at hc
    obtain ⟨r', h1, rfl⟩ := hc
    simp only [evRes, Option.map_eq_some_iff] at he
    obtain ⟨vs', h2, rfl⟩ := he
    obtain ⟨xs, g1, g2⟩ := evRes_ok i ht r _ r' vs' h1 h2
    exact ⟨_ :: xs, by simp only [List.mapM_cons, Sem.run_bind, resOne, Sem.run_pure, Result.andThen_ok, g1], ⟨_, _, rfl, widO_rel (getD_rel ht t), g2⟩⟩
  | .cell t ty :: r, tys, rr, vs, hc, he => by
    simp only [compRes] at hc
    split at hc
    · rename_i g n r' h1 h2 h3
      injection hc with hc; subst hc
      simp only [evRes] at he
      split at he
      · rename_i v vs' h4 h5
        injection he with he; subst he
        obtain ⟨xs, g1, g2⟩ := evRes_ok i ht r _ r' vs' h3 h5
        obtain ⟨y, g3, g4⟩ := ok_load (P := P) i h2 h1 h4 (getD_rel ht t)
        have hrun : (resOne tmps (.cell t ty)).run P w = .ok y w := by
          obtain ⟨ad, hz⟩ := loadV_ptr h4 (getD_rel ht t)
          rw [hz] at g3
          simp only [Instr.loadAt, Sem.run_bind, Instr.sureAddr, Sem.run_pure, Result.andThen_ok] at g3
          simp only [resOne, Sem.run_bind, hz, asAddr, Sem.run_pure, Result.andThen_ok, g3]
        exact ⟨_ :: xs, by simp only [List.mapM_cons, Sem.run_bind, hrun, Sem.run_pure, Result.andThen_ok, g1], ⟨_, _, rfl, g4, g2⟩⟩
      · cases he
    · cases hc

theorem mkRes_rel {vs : List V} {xs : List Value} (r : V.rels μ S h vs xs) : V.rel μ S h (mkRes vs) (if hh : xs.toArray.size = 1 then xs.toArray[0] else .tuple xs.toArray) := by
  have tupR : ∀ {vs : List V} {xs : List Value}, V.rels μ S h vs xs → V.rel μ S h (mkTup vs) (.tuple xs.toArray) := by
    intro vs xs r
    unfold mkTup
    split
    · rename_i ds e
      have := allD_eq e
      subst this
      exact ⟨xs, rfl, V.rels_d.1 r⟩
    · exact ⟨xs, rfl, r⟩
  have hlen := V.rels_length r
  unfold mkRes
  split
  · rename_i v
    obtain ⟨x, ws, e, r0, r1⟩ := r
    have : ws = [] := r1
    subst this; subst e
    simpa using r0
  · rename_i hne
    rw [dif_neg]
    · exact tupR r
    · intro hh
      simp only [List.size_toArray] at hh
      rw [hh] at hlen
      obtain ⟨v, rfl⟩ := List.length_eq_one_iff.1 hlen
      exact hne v rfl

theorem rels_one {vs : List V} {x : Value} (r : V.rels μ S h vs [x]) : V.rel μ S h (vs.headD (.d .undef)) x := by
  cases vs with
  | nil => cases (show [x] = [] from r)
  | cons y ys =>
    obtain ⟨z, zs, e, r3, r4⟩ := r
    injection e with e1 e2; subst e1
    exact r3

theorem results_run {fn : Func} {tmps : Array Value} {xs : List Value} (hr : (fn.results.toList.mapM (resOne tmps)).run P w = .ok xs w) :
    (results fn tmps).run P w = .ok (if hh : xs.toArray.size = 1 then xs.toArray[0] else .tuple xs.toArray) w := by
  have hm : (fn.results.mapM (resOne tmps)).run P w = .ok xs.toArray w := by
    rw [Array.mapM_eq_mapM_toList]
    simp [hr]
  have he : results fn tmps = (do let vs ← fn.results.mapM (resOne tmps); pure (if hh : vs.size = 1 then vs[0] else .tuple vs)) := by
    unfold results
    congr 1
  rw [he]
  simp only [Sem.run_bind, hm, Result.andThen_ok, Sem.run_pure]

theorem args_rels {args : List V} {vs : List Value} (r : V.rels μ S h args vs) (n : Nat) :
    V.rels μ S h (args ++ List.replicate (n - args.length) (.d (.tup []))) (vs.toArray ++ Array.replicate (n - vs.toArray.size) undef).toList := by
  have hlen := V.rels_length r
  simp only [Array.toList_append, Array.toList_replicate, List.size_toArray]
  rw [hlen]
  refine V.rels_append r ?_
  induction (n - vs.length) with
  | zero => rfl
  | succ k ih => exact ⟨undef, _, rfl, ⟨[], rfl, rfl⟩, ih⟩

theorem evBody_ok (hcall : CallOK P G call) (hspec : SpecOK P G sp) (hS : ∀ f, isS f = true → (sp f).isSome = true) (hmix : P.follows .mixedOrders = true) {n : Nat} {f : FuncId} {fn : Func} {rf : RF}
    (hf : P.funcs[f]? = some fn) {K : Nat → TI} {T : Nat → Option TI} (hc : compF P G isS K T fn = some rf) {args : List V} {out : Out} {h' : List Blk} (he : evBody call sp n rf args h = some (out, h')) :
    Callable P f ∧ ∀ (μ : Mu) (S : Stab) (w : World) (vs : List Value), Inv μ S h w → GOK G S → V.rels μ S h args vs →
      Calls P f vs.toArray w fun e w' => ∃ μ' S', Tr μ S h w μ' S' h' w' ∧ OutRel μ' S' h' out e := by
  unfold compF at hc
  split at hc
  · cases hc
  · rename_i c hb
    split at hc
    · cases hc
    · rename_i hname
      split at hc
      · rename_i rc rr h1 h2
        injection hc with hc; subst hc
        refine ⟨⟨fn, hf, by simpa using hname, by simp [hb]⟩, ?_⟩
        intro μ S w vs i hG hargs
        refine calls_of_wp hf hb ?_
        have ht := args_rels hargs fn.ntmps
        simp only [evBody] at he
        cases hev : evC call sp n rc (args ++ List.replicate (fn.ntmps - args.length) (.d (.tup []))) h with
        | none => rw [hev] at he; cases he
        | some q =>
          obtain ⟨ex, ts, h1'⟩ := q
          rw [hev] at he
          refine evC_ok hcall hspec hS hmix n c rc h1 _ _ ex ts h1' hev μ S w _ _ i hG ht ?_
          intro e' a' w' μ' S' t r d x
          have fin : (evRes ts h1' rr).map (fun vs => (Out.ret ((compact h.length [mkRes vs] h1').1.headD (.d .undef)), (compact h.length [mkRes vs] h1').2)) = some (out, h') → a'.defers = [] ∧ ∃ v, (results fn a'.tmps).run P w' = .ok v w' ∧ ∃ μ' S', Tr μ S h w μ' S' h' w' ∧ OutRel μ' S' h' out (.returned v) := by
            intro he
            simp only [Option.map_eq_some_iff] at he
            obtain ⟨vs', g1, g2⟩ := he
            injection g2 with g2 g3; subst g2; subst g3
            obtain ⟨xs, g4, g5⟩ := evRes_ok t.inv r fn.results.toList _ rr vs' h2 g1
            obtain ⟨μ'', t2, r2⟩ := compact_ok (vs := [mkRes vs']) (vs'' := (compact h.length [mkRes vs'] h1').1) (h'' := (compact h.length [mkRes vs'] h1').2) (xs := [_]) t ⟨_, _, rfl, mkRes_rel g5, rfl⟩ rfl
            exact ⟨d, _, results_run g4, μ'', S', t2, _, rfl, rels_one r2⟩
          cases ex with
          | nor =>
            have : e' = .normal := x
            subst this
            exact fin he
          | ret =>
            have : e' = .ret := x
            subst this
            exact fin he
          | exit id => cases he
          | pan v =>
            obtain ⟨y, rfl, ry⟩ := x
            simp only at he
            injection he with he; injection he with q1 q2; subst q1; subst q2
            exact ⟨d, μ', S', t, y, rfl, ry⟩
      · cases hc

/-- The bodies are those of the program. -/
def BodyOK (P : Program) (G : Glob) (isS : FuncId → Bool) (body : FuncId → Option RF) : Prop := ∀ f rf, body f = some rf → ∃ fn K T, P.funcs[f]? = some fn ∧ compF P G isS K T fn = some rf

theorem evF_ok {body : FuncId → Option RF} (hbody : BodyOK P G isS body) (hspec : SpecOK P G sp) (hS : ∀ f, isS f = true → (sp f).isSome = true) (hmix : P.follows .mixedOrders = true) (n : Nat) :
    ∀ d, CallOK P G (evF body sp n d)
  | 0 => fun f args h out h' he => by simp [evF] at he
  | d + 1 => fun f args h out h' he => by
    simp only [evF] at he
    split at he
    · rename_i rf hrf
      obtain ⟨fn, K, T, h1, h2⟩ := hbody f rf hrf
      exact evBody_ok (evF_ok hbody hspec hS hmix n d) hspec hS hmix h1 h2 he
    · cases he

/-- A value as plain data: a list that was made is nobody else's. -/
def firmV (h : List Blk) : V → Option (D × List Blk)
  | .sl id off sz n cap => match h[id]? with
    | some (.cells cs) => match toDs cs with
      | some ds => if ((ds.drop off).take (n * sz)).length = n * sz then some (.lst sz n ((ds.drop off).take (n * sz)) false, h.set id .absent) else none
      | none => none
    | _ => none
  | v => v.toD.map fun d => (d, h)

def firmVs (h : List Blk) : List V → Option (List D × List Blk)
  | [] => some ([], h)
  | v :: vs => match firmV h v with
    | some (d, h1) => match firmVs h1 vs with
      | some (ds, h2) => some (d :: ds, h2)
      | none => none
    | none => none

def firmA (h : List Blk) : V → Option (D × List Blk)
  | .agg cs => (firmVs h cs).map fun (ds, h') => (.agg ds, h')
  | v => firmV h v

def firmAs (h : List Blk) : List V → Option (List D × List Blk)
  | [] => some ([], h)
  | v :: vs => match firmA h v with
    | some (d, h1) => match firmAs h1 vs with
      | some (ds, h2) => some (d :: ds, h2)
      | none => none
    | none => none

/-- What a function hands back, as plain data. -/
def outD (h : List Blk) : V → Option D
  | .tup vs => (firmAs h vs).map fun (ds, _) => .tup ds
  | v => (firmA h v).map (·.1)

theorem pure_of_tr {S S' : Stab} {μ' : Mu} {h' : List Blk} {w w' : World} (t : Tr μ0 S [] w μ' S' h' w') : Tr μ0 S [] w μ0 S' [] w' where
  inv := t.inv.nil
  kp := ⟨t.kp.sub, Nat.le_refl _, fun i hi => by simp at hi, fun i sz n e => by simp at e, fun i sz n hi => by simp at hi, fun i hi => by simp at hi⟩
  fresh := t.fresh
  frame := t.frame
  own := fun b ⟨k, x, e, _⟩ => by simp at e
  size := t.size
  os := t.os
  tape := t.tape
  output := t.output

theorem firmV_ok {μ' : Mu} {S' : Stab} {h' h'' : List Blk} {w' : World} (i : Inv μ' S' h' w') {v : V} {x : Value} {d : D} (e : firmV h' v = some (d, h'')) (r : V.rel μ' S' h' v x) :
    ∃ S'', Tr μ' S' h' w' μ' S'' h'' w' ∧ D.rel S'' d x := by
  unfold firmV at e
  split at e
  · rename_i id off sz n cap
    split at e
    · rename_i cs hcs
      split at e
      · rename_i ds hds
        split at e
        · rename_i hl
          injection e with e; injection e with e1 e2; subst e1; subst e2
          obtain ⟨S'', t2, hat⟩ := tr_firm i hcs hds
          obtain ⟨_, _, h3, rfl⟩ := r
          exact ⟨S'', t2, _, cap, rfl, h3, by simp, hl, .inr ⟨_, off, none, rfl, by
            have := D.relAt_take (n * sz) (D.relAt_drop off hat)
            simpa using this, fun _ => rfl⟩⟩
        · cases e
      · cases e
    · cases e
  · simp only [Option.map_eq_some_iff] at e
    obtain ⟨d', h1, e1⟩ := e
    injection e1 with e1 e2; subst e1; subst e2
    refine ⟨S', Tr.refl i, ?_⟩
    unfold V.toD at h1
    split at h1
    · injection h1 with h1; subst h1; exact r
    · injection h1 with h1; subst h1
      obtain ⟨_, base, cap, e1, q1, q2, q3⟩ := r
      exact gs_lst e1 q1 q2 q3
    · cases h1

theorem firmVs_ok {μ' : Mu} {w' : World} : ∀ (vs : List V) (xs : List Value) (ds : List D) (S' : Stab) (h' h'' : List Blk), Inv μ' S' h' w' → firmVs h' vs = some (ds, h'') → V.rels μ' S' h' vs xs →
    ∃ S'', Tr μ' S' h' w' μ' S'' h'' w' ∧ D.rels S'' ds xs
  | [], xs, ds, S', h', h'', i, e, r => by
    simp only [firmVs] at e
    injection e with e; injection e with e1 e2; subst e1; subst e2
    exact ⟨S', Tr.refl i, r⟩
  | v :: vs, _, ds, S', h', h'', i, e, ⟨x, xs, e0, r0, r⟩ => by
    subst e0
    simp only [firmVs] at e
    split at e
    · rename_i d h1 hv
      split at e
      · rename_i ds' h2 hvs
        injection e with e; injection e with e1 e2; subst e1; subst e2
        obtain ⟨S1, t1, r1⟩ := firmV_ok i hv r0
        obtain ⟨S2, t2, r2⟩ := firmVs_ok vs xs ds' S1 h1 h2 t1.inv hvs (V.rels_mono t1.kp _ _ r)
        exact ⟨S2, t1.trans t2, x, xs, rfl, D.rel_mono t2.kp.sub _ _ r1, r2⟩
      · cases e
    · cases e

theorem firmA_ok {μ' : Mu} {S' : Stab} {h' h'' : List Blk} {w' : World} (i : Inv μ' S' h' w') {v : V} {x : Value} {d : D} (e : firmA h' v = some (d, h'')) (r : V.rel μ' S' h' v x) :
    ∃ S'', Tr μ' S' h' w' μ' S'' h'' w' ∧ D.rel S'' d x := by
  unfold firmA at e
  split at e
  · simp only [Option.map_eq_some_iff] at e
    obtain ⟨⟨ds, h2⟩, h1, e1⟩ := e
    injection e1 with e1 e2; subst e1; subst e2
    obtain ⟨xs, e2, r2⟩ := r
    obtain ⟨S2, t2, r3⟩ := firmVs_ok _ xs ds S' h' h2 i h1 r2
    exact ⟨S2, t2, xs, e2, r3⟩
  · exact firmV_ok i e r

theorem firmAs_ok {μ' : Mu} {w' : World} : ∀ (vs : List V) (xs : List Value) (ds : List D) (S' : Stab) (h' h'' : List Blk), Inv μ' S' h' w' → firmAs h' vs = some (ds, h'') → V.rels μ' S' h' vs xs →
    ∃ S'', Tr μ' S' h' w' μ' S'' h'' w' ∧ D.rels S'' ds xs
  | [], xs, ds, S', h', h'', i, e, r => by
    simp only [firmAs] at e
    injection e with e; injection e with e1 e2; subst e1; subst e2
    exact ⟨S', Tr.refl i, r⟩
  | v :: vs, _, ds, S', h', h'', i, e, ⟨x, xs, e0, r0, r⟩ => by
    subst e0
    simp only [firmAs] at e
    split at e
    · rename_i d h1 hv
      split at e
      · rename_i ds' h2 hvs
        injection e with e; injection e with e1 e2; subst e1; subst e2
        obtain ⟨S1, t1, r1⟩ := firmA_ok i hv r0
        obtain ⟨S2, t2, r2⟩ := firmAs_ok vs xs ds' S1 h1 h2 t1.inv hvs (V.rels_mono t1.kp _ _ r)
        exact ⟨S2, t1.trans t2, x, xs, rfl, D.rel_mono t2.kp.sub _ _ r1, r2⟩
      · cases e
    · cases e

theorem outD_ok {μ' : Mu} {S' : Stab} {h' : List Blk} {w' : World} (i : Inv μ' S' h' w') {v : V} {x : Value} {d : D} (e : outD h' v = some d) (r : V.rel μ' S' h' v x) :
    ∃ S'' h'', Tr μ' S' h' w' μ' S'' h'' w' ∧ D.rel S'' d x := by
  unfold outD at e
  split at e
  · simp only [Option.map_eq_some_iff] at e
    obtain ⟨⟨ds, h2⟩, h1, e1⟩ := e
    subst e1
    obtain ⟨xs, e2, r2⟩ := r
    obtain ⟨S2, t2, r3⟩ := firmAs_ok _ xs ds S' h' h2 i h1 r2
    exact ⟨S2, h2, t2, xs, e2, r3⟩
  · simp only [Option.map_eq_some_iff] at e
    obtain ⟨⟨d', h2⟩, h1, e1⟩ := e
    subst e1
    obtain ⟨S2, t2, r3⟩ := firmA_ok i h1 r
    exact ⟨S2, h2, t2, r3⟩

/-- A function of plain data, by its run over no memory. -/
theorem pure_of {call : CallT} (hcall : CallOK P G call) {f : FuncId} {F : List D → Option D} (hc : Callable P f)
    (hF : ∀ ds d, F ds = some d → ∃ v h', call f (ds.map .d) [] = some (.ret v, h') ∧ outD h' v = some d) : Pure P G f F := by
  refine ⟨hc, fun S w ds vs d i hG hr hd => ?_⟩
  obtain ⟨v, h', h1, h2⟩ := hF ds d hd
  obtain ⟨_, hC⟩ := hcall _ _ _ _ _ h1
  refine Calls.mono (hC μ0 S w vs i hG (V.rels_d.2 hr)) ?_
  rintro e w' ⟨μ', S', t, x, rfl, r⟩
  obtain ⟨S'', h'', t2, r2⟩ := outD_ok t.inv h2 r
  exact ⟨x, S'', rfl, pure_of_tr (t.trans t2), r2⟩

end
end Go.Ev
