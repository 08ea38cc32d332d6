/- The machine's operations, one behind the other, do what the abstract run says. -/
import Derived.Test.YtgkjmdbjncnlpaaDoorEvQ
namespace Go.Ev
set_option linter.unusedVariables false
set_option linter.unusedSimpArgs false

/-- The variables of the packages hold what is said of them. -/
def GOK (G : Glob) (S : Stab) : Prop := ∀ g cs, G g = some cs → D.relAt S cs g 0

theorem GOK.mono {G : Glob} {S S' : Stab} (h : GOK G S) (k : S.le S') : GOK G S' := fun g cs e => D.relAt_mono k cs g 0 (h g cs e)

def μ0 : Mu := fun _ => ⟨0, 0⟩

def Callable (P : Program) (f : FuncId) : Prop := ∃ fn, P.funcs[f]? = some fn ∧ (fn.name == "runtime.NumGoroutine") = false ∧ fn.body.isNone = false

/-- What a function of plain data answers, whatever the memory. -/
def Pure (P : Program) (G : Glob) (f : FuncId) (F : List D → Option D) : Prop :=
  Callable P f ∧ ∀ (S : Stab) (w : World) (ds : List D) (vs : List Value) (d : D), Inv μ0 S [] w → GOK G S → D.rels S ds vs → F ds = some d →
    Calls P f vs.toArray w fun e w' => ∃ v S', e = .returned v ∧ Tr μ0 S [] w μ0 S' [] w' ∧ D.rel S' d v

def OutRel (μ : Mu) (S : Stab) (h : List Blk) : Out → Ending → Prop
  | .ret v, e => ∃ x, e = .returned x ∧ V.rel μ S h v x
  | .pan v, e => ∃ x, e = .panicked [{ v := x, recovered := false }] ∧ V.rel μ S h v x

def ExRel (μ : Mu) (S : Stab) (h : List Blk) : Ex → Exit → Prop
  | .nor, e => e = .normal
  | .exit i, e => e = .exit i
  | .ret, e => e = .ret
  | .pan v, e => ∃ x, e = .panic [{ v := x, recovered := false }] ∧ V.rel μ S h v x

def CallOK (P : Program) (G : Glob) (call : CallT) : Prop := ∀ f args h out h', call f args h = some (out, h') → Callable P f ∧
  ∀ (μ : Mu) (S : Stab) (w : World) (vs : List Value), Inv μ S h w → GOK G S → V.rels μ S h args vs →
    Calls P f vs.toArray w fun e w' => ∃ μ' S', Tr μ S h w μ' S' h' w' ∧ OutRel μ' S' h' out e

def SpecOK (P : Program) (G : Glob) (sp : SpecT) : Prop := ∀ f F, sp f = some F → Pure P G f F

theorem Inv.nil {μ : Mu} {S : Stab} {h : List Blk} {w : World} (i : Inv μ S h w) : Inv μ0 S [] w :=
  ⟨i.st, fun k x e => by simp at e, fun k j x y e => by simp at e, fun k cs e => by simp at e, fun k sz n e => by simp at e⟩

/-- What a call leaves alone that knows nothing of the abstract memory. -/
theorem tr_frame {μ : Mu} {S S' : Stab} {h : List Blk} {w w' : World} (i : Inv μ S h w) (t : Tr μ0 S [] w μ0 S' [] w') : Tr μ S h w μ S' h w' := by
  have hno : ∀ b, ¬ owns μ0 [] b := fun b ⟨k, x, e, _⟩ => by simp at e
  have hblk : ∀ b, b < w.heap.size → w'.heap[b]? = w.heap[b]? := fun b hb => t.frame b hb (hno b)
  have hK : Kp μ S h μ S' h := ⟨t.kp.sub, Nat.le_refl _, fun _ _ _ => rfl, fun _ _ n e => ⟨n, e, Nat.le_refl _, fun _ => rfl⟩, fun _ _ n _ e => ⟨n, e⟩, fun _ _ e => e⟩
  have hfr : ∀ b o, b < w.heap.size → S b o = none → S' b o = none := fun b o hb hs => by
    cases q : S' b o with
    | none => rfl
    | some v => rcases t.fresh b o v q hs with h1 | h1
                · omega
                · exact (hno b h1).elim
  refine { inv := { st := t.inv.st, bl := ?_, inj := i.inj, sepc := ?_, sept := ?_ }, kp := hK, fresh := ?_, frame := fun b hb _ => hblk b hb, own := fun _ q => .inr q, size := t.size, os := t.os, tape := t.tape, output := t.output }
  · intro k x e
    by_cases hl : x.live
    · exact Blk.rel_mono hK (hblk _ (i.lt e hl)) x (i.bl k x e)
    · cases x with
      | absent => trivial
      | ghost => trivial
      | cells _ => exact absurd trivial hl
      | tip _ _ => exact fun h0 => absurd h0 hl
  · intro k cs e o; exact hfr _ _ (i.lt e trivial) (i.sepc k cs e o)
  · intro k sz n e hp o ho; exact hfr _ _ (i.lt e hp) (i.sept k sz n e hp o ho)
  · intro b o v q hs
    rcases t.fresh b o v q hs with h1 | h1
    · exact .inl h1
    · exact (hno b h1).elim

section
variable {P : Program} {G : Glob} {isS : FuncId → Bool} {call : CallT} {sp : SpecT} {μ : Mu} {S : Stab} {h : List Blk} {w : World} {a : Act}

theorem reads_of (hG : GOK G S) {ts : List V} (ht : V.rels μ S h ts a.tmps.toList) : Reads G μ S h a.eval (RX.ev ts) where
  cst := fun _ => rfl
  rd := fun x rx e => by
    cases x with
    | tmp t =>
      simp only [compX, Option.some.injEq] at e; subst e
      have hlen := V.rels_length ht
      simp only [RX.ev, Act.eval, List.getD]
      cases q : ts[t]? with
      | none =>
        have : a.tmps.getD t undef = undef := by
          have hge : ts.length ≤ t := by
            rcases Nat.lt_or_ge t ts.length with g | g
            · simp [List.getElem?_eq_getElem g] at q
            · exact g
          simp only [Array.length_toList] at hlen
          have hnl : ¬ t < a.tmps.size := by
            have : a.tmps.size ≤ t := by rw [← hlen]; exact hge
            exact Nat.not_lt.2 this
          simp [Array.getD, hnl]
        rw [this]
        exact ⟨[], rfl, rfl⟩
      | some v =>
        obtain ⟨y, g1, g2⟩ := V.rels_get t v ht q
        have : a.tmps.getD t undef = y := by
          rw [Array.getElem?_toList] at g1
          have hlt : t < a.tmps.size := by
            rcases Nat.lt_or_ge t a.tmps.size with g | g
            · exact g
            · simp [Array.getElem?_eq_none g] at g1
          rw [Array.getElem?_eq_getElem hlt] at g1
          injection g1 with g1
          simp [Array.getD, hlt, g1]
        rw [this]; exact g2
    | const v =>
      simp only [compX, Option.map_eq_some_iff] at e
      obtain ⟨d, h1, rfl⟩ := e
      exact D.ofV_rel 4 v d h1
    | global g =>
      simp only [compX, Option.map_eq_some_iff] at e
      obtain ⟨cs, h1, rfl⟩ := e
      exact ⟨g, 0, rfl, hG g cs h1⟩
    | func f =>
      simp only [compX, Option.some.injEq] at e; subst e
      exact ⟨[], [], rfl, rfl, rfl⟩

theorem put_rels {ts : List V} (ht : V.rels μ S h ts a.tmps.toList) (dst : Option Nat) {v : V} {x : Value} (r : V.rel μ S h v x) : V.rels μ S h (putR ts dst v) (a.put dst x).tmps.toList := by
  cases dst with
  | none => exact ht
  | some t =>
    simp only [putR, Act.put, Array.toList_setIfInBounds]
    exact V.rels_set t v x ht r

theorem callFunc_run {f : FuncId} (hc : Callable P f) (args : Array Value) : (callFunc f args).run P w = .ok (.enter f args) w := by
  obtain ⟨fn, h1, h2, h3⟩ := hc
  have h2' : ¬ fn.name = "runtime.NumGoroutine" := by simpa using h2
  have h3' : ¬ fn.body = none := by cases q : fn.body with | none => simp [q] at h3 | some _ => simp
  simp [callFunc, h1, h2', h3']

/-- One operation. -/
theorem evRI_ok (hcall : CallOK P G call) (hspec : SpecOK P G sp) (hS : ∀ f, isS f = true → (sp f).isSome = true) {o : Oper} {ins : RI} {ts : List V} {out : Out} {h' : List Blk} (hc : compRI P G isS o.op = some ins)
    (he : evRI call sp ins ts h = some (out, h')) (i : Inv μ S h w) (hG : GOK G S) (ht : V.rels μ S h ts a.tmps.toList) {next : Act → World → Prop} {Q : Exit → Act → World → Prop}
    (hret : ∀ v, out = .ret v → ∀ μ' S' w' x, Tr μ S h w μ' S' h' w' → V.rel μ' S' h' v x → next (a.put o.dst x) w')
    (hpan : ∀ v, out = .pan v → ∀ μ' S' w' x, Tr μ S h w μ' S' h' w' → V.rel μ' S' h' v x → Q (.panic [{ v := x, recovered := false }]) a w') :
    o.wp P a w next Q := by
  have hr := reads_of (G := G) hG ht
  have simpleOp : ∀ r, compOp P G o.op = some r → ins = .op r → o.wp P a w next Q := by
    rintro r hcr rfl
    simp only [evRI, Option.map_eq_some_iff] at he
    obtain ⟨⟨v, h2⟩, h1, e1⟩ := he
    injection e1 with e1 e2; subst e1; subst e2
    obtain ⟨nx, x, μ', S', w', g1, g2, g3, g4⟩ := ev1_ok i hr hcr h1
    have := hret v rfl μ' S' w' x g3 g4
    unfold Oper.wp
    rw [g1]
    rcases g2 with rfl | ⟨rfl, rfl⟩
    · exact this
    · exact this
  have callOp : ∀ (f : Operand) (args : Array Operand) (argTypes : Array TypeId) (rf : RX) (ras : List RX), o.op = .call { callee := .value f, args, argTypes } → V.rel μ S h (rf.ev ts) (a.eval f) → V.rels μ S h (ras.map (RX.ev ts)) (args.toList.map a.eval) →
      ins = .call rf ras → o.wp P a w next Q := by
    rintro f args argTypes rf ras hop hf hargs rfl
    simp only [evRI] at he
    split at he
    · rename_i g c1 c2 hcal
      obtain ⟨hcb, hcalls⟩ := hcall _ _ _ _ _ he
      have hxs := hargs
      have hfn : ∃ x1 x2 : List Value, a.eval f = .func (.func g) x1.toArray x2.toArray ∧ V.rels μ S h c1 x1 ∧ V.rels μ S h c2 x2 := by
        revert hf hcal
        generalize rf.ev ts = z
        intro hf hcal
        unfold V.callee at hcal
        split at hcal
        · injection hcal with hcal; injection hcal with e1 e2; injection e2 with e2 e3; subst e1; subst e2; subst e3
          obtain ⟨x1, x2, e, r1, r2⟩ := hf
          exact ⟨x1, x2, e, V.rels_d.2 r1, V.rels_d.2 r2⟩
        · injection hcal with hcal; injection hcal with e1 e2; injection e2 with e2 e3; subst e1; subst e2; subst e3
          obtain ⟨x1, x2, e, r1, r2⟩ := hf
          exact ⟨x1, x2, e, r1, r2⟩
        · cases hcal
      obtain ⟨x1, x2, e, r1, r2⟩ := hfn
      have hargs2 : V.rels μ S h (c1 ++ ras.map (RX.ev ts) ++ c2) (x1 ++ args.toList.map a.eval ++ x2) := V.rels_append (V.rels_append r1 hxs) r2
      have hC := hcalls μ S w _ i hG hargs2
      have hrun : (execOp a.eval o).run P w = .ok (.enter g (x1 ++ args.toList.map a.eval ++ x2).toArray) w := by
        have e1 : args.map a.eval = (args.toList.map a.eval).toArray := by apply Array.ext'; simp
        simp only [execOp, hop, Sem.run_bind, resolve, e, Deferred.ofValue, Sem.run_pure, Result.andThen_ok, invoke, e1]
        rw [callFunc_run hcb]
        simp
      unfold Oper.wp
      rw [hrun, Oper.upon_enter]
      refine Calls.mono hC ?_
      rintro e' w' ⟨μ', S', t, ho⟩
      cases out with
      | ret v =>
        obtain ⟨x, rfl, r⟩ := ho
        exact hret v rfl μ' S' w' x t r
      | pan v =>
        obtain ⟨x, rfl, r⟩ := ho
        exact hpan v rfl μ' S' w' x t r
    · cases he
  unfold compRI at hc
  split at hc
  · rename_i f args argTypes hop
    split at hc
    · rename_i hisS
      simp only [Option.map_eq_some_iff] at hc
      obtain ⟨ras, hargs, rfl⟩ := hc
      simp only [evRI] at he
      split at he
      · rename_i F hF
        split at he
        · rename_i ds hds
          simp only [Option.map_eq_some_iff] at he
          obtain ⟨d, hd, e1⟩ := he
          injection e1 with e1 e2; subst e1; subst e2
          obtain ⟨hcb, hp⟩ := hspec f F hF
          have hxs := toDs_rel hds (compXsW_rel hr _ _ _ hargs)
          have hC := hp S w ds _ d i.nil hG hxs hd
          have hrun : (execOp a.eval o).run P w = .ok (.enter f (args.toList.map a.eval).toArray) w := by
            have e1 : args.map a.eval = (args.toList.map a.eval).toArray := by apply Array.ext'; simp
            simp only [execOp, hop, Sem.run_bind, resolve, show a.eval (.func f) = .func (.func f) #[] #[] from rfl, Deferred.ofValue, Sem.run_pure, Result.andThen_ok, invoke, e1]
            rw [callFunc_run hcb]
            simp
          unfold Oper.wp
          rw [hrun, Oper.upon_enter]
          refine Calls.mono hC ?_
          rintro e' w' ⟨x, S', rfl, t, r⟩
          exact hret _ rfl μ S' w' x (tr_frame i t) r
        · cases he
      · cases he
    · simp only [Option.map_eq_some_iff] at hc
      obtain ⟨ras, hargs, rfl⟩ := hc
      exact callOp _ _ _ _ _ hop (show V.rel μ S h ((RX.c (.fn f [] [])).ev ts) (a.eval (.func f)) from ⟨[], [], rfl, rfl, rfl⟩) (compXsW_rel hr _ _ _ hargs) rfl
  · rename_i f args argTypes hnf hop
    split at hc
    · rename_i rf ras h1 h2
      injection hc with hc
      exact callOp f args argTypes rf ras hop (hr.rd f rf h1) (compXsW_rel hr _ _ _ h2) hc.symm
    · cases hc
  · rename_i x hop
    simp only [Option.map_eq_some_iff] at hc
    obtain ⟨rx, h1, rfl⟩ := hc
    have hx := hr.rd x rx h1
    have fin : ∀ (v : V) (t : TypeId) (y : Value), out = .pan v → h' = h → a.eval x = .iface t y → V.rel μ S h v (.iface t y) → o.wp P a w next Q := by
      rintro v t y rfl rfl hax hv
      have hrun : (execOp a.eval o).run P w = .halt (.panic (.iface t y)) w := by
        simp only [execOp, hop, hax, Instr.panic, Sem.run_bind, run_goPanic, Result.andThen_halt]
      unfold Oper.wp
      rw [hrun, Oper.upon_panic]
      exact hpan v rfl μ S w _ (Tr.refl i) hv
    simp only [evRI] at he
    split at he
    · rename_i t y hy
      injection he with he; injection he with e1 e2; subst e1; subst e2
      rw [show RX.ev ts rx = _ from hy] at hx
      obtain ⟨u, e, r⟩ := hx
      exact fin _ t u rfl rfl e ⟨u, rfl, r⟩
    · rename_i t y hy
      injection he with he; injection he with e1 e2; subst e1; subst e2
      rw [show RX.ev ts rx = _ from hy] at hx
      obtain ⟨u, e, r⟩ := hx
      exact fin _ t u rfl rfl e ⟨u, rfl, r⟩
    · cases he
  · simp only [Option.map_eq_some_iff] at hc
    obtain ⟨r, h1, rfl⟩ := hc
    exact simpleOp r h1 rfl

theorem want_ok {ops : Array Oper} {o : Oper} {ts : List V} {g : Option (Nat × Bool)} {b : Bool} (hg : compGuard ops o.guard = some g) (hb : wantR ts g = some b)
    (ht : V.rels μ S h ts a.tmps.toList) : Region.wanted o (yielded ops a.tmps) = b := by
  unfold Region.wanted
  cases hgu : o.guard with
  | none =>
    simp only [hgu, compGuard, Option.some.injEq] at hg; subst hg
    simp only [wantR, Option.some.injEq] at hb; subst hb
    rfl
  | some jw =>
    obtain ⟨j, wnt⟩ := jw
    simp only [hgu, compGuard] at hg
    split at hg
    · rename_i t hdst
      injection hg with hg; subst hg
      have hlen := V.rels_length ht
      simp only [Array.length_toList] at hlen
      unfold wantR at hb
      split at hb
      · rename_i h0; cases h0
      · rename_i t' b' h0
        injection h0 with h0; injection h0 with e1 e2; subst e1; subst e2
        have hy : ∀ z : V, ts.getD t (.d (.tup [])) = z → (∃ y, a.tmps[t]? = some y ∧ V.rel μ S h z y) ∨ (a.tmps[t]? = none ∧ z = .d (.tup [])) := by
          intro z hz
          cases q : ts[t]? with
          | none =>
            have hge : ts.length ≤ t := by
              rcases Nat.lt_or_ge t ts.length with g | g
              · simp [List.getElem?_eq_getElem g] at q
              · exact g
            refine .inr ⟨Array.getElem?_eq_none (by rw [← hlen]; exact hge), ?_⟩
            rw [← hz]; simp [List.getD, q]
          | some v =>
            obtain ⟨y, g1, g2⟩ := V.rels_get t v ht q
            rw [Array.getElem?_toList] at g1
            refine .inl ⟨y, g1, ?_⟩
            have : z = v := by rw [← hz]; simp [List.getD, q]
            rw [this]; exact g2
        split at hb
        · rename_i c hc
          injection hb with hb; subst hb
          rcases hy _ hc with ⟨y, g1, g2⟩ | ⟨_, g2⟩
          · have : y = .bool c := g2
            subst this
            simp [yielded, hdst, g1]
          · cases g2
        · rename_i hc
          injection hb with hb; subst hb
          rcases hy _ hc with ⟨y, g1, vs, g2, g3⟩ | ⟨g1, _⟩
          · have : vs = [] := g3
            subst this
            subst g2
            simp [yielded, hdst, g1]
          · simp [yielded, hdst, g1]
        · cases hb
    · cases hg

/-- Operations one behind the other. -/
theorem evOps_ok (hcall : CallOK P G call) (hspec : SpecOK P G sp) (hS : ∀ f, isS f = true → (sp f).isSome = true) {ops : Array Oper} {Q : Exit → Act → World → Prop} :
    ∀ (l : List Oper) (rs : List RO) (ts : List V) {S : Stab} {μ : Mu} {h : List Blk} {w : World} {a : Act} {ex : Ex} {ts' : List V} {h' : List Blk}, compOs P G isS ops l = some rs → evOps call sp rs ts h = some (ex, ts', h') →
      Inv μ S h w → GOK G S → V.rels μ S h ts a.tmps.toList →
      (∀ e' a' w' μ' S', Tr μ S h w μ' S' h' w' → V.rels μ' S' h' ts' a'.tmps.toList → a'.defers = a.defers → ExRel μ' S' h' ex e' → Q e' a' w') → wpList P ops Q l a w
  | [], rs, ts, S, μ, h, w, a, ex, ts', h', hc, he, i, hG, ht, hQ => by
    simp only [compOs, Option.some.injEq] at hc; subst hc
    simp only [evOps] at he
    injection he with he; injection he with e1 e2; injection e2 with e2 e3; subst e1; subst e2; subst e3
    exact hQ .normal a w μ S (Tr.refl i) ht rfl rfl
  | o :: l, rs, ts, S, μ, h, w, a, ex, ts', h', hc, he, i, hG, ht, hQ => by
    simp only [compOs] at hc
    split at hc
    · rename_i ro rest h1 h2
      injection hc with hc; subst hc
      unfold compO at h1
      split at h1
      · rename_i ri g hri hg
        injection h1 with h1; subst h1
        simp only [evOps] at he
        unfold wpList
        split at he
        · rename_i hw
          rw [if_pos (want_ok hg hw ht)]
          left
          split at he
          · rename_i v h1 hev
            refine evRI_ok hcall hspec hS hri hev i hG ht ?_ ?_
            · intro v' e μ' S' w' x t r
              injection e with e; subst e
              refine evOps_ok hcall hspec hS l rest _ h2 he t.inv (hG.mono t.kp.sub) (put_rels (V.rels_mono t.kp _ _ ht) o.dst r) ?_
              intro e' a' w'' μ'' S'' t' r' d' x'
              refine hQ e' a' w'' μ'' S'' (t.trans t') r' (d'.trans ?_) x'
              cases o.dst <;> rfl
            · intro v' e; cases e
          · rename_i v h1 hev
            injection he with he; injection he with e1 e2; injection e2 with e2 e3; subst e1; subst e2; subst e3
            refine evRI_ok hcall hspec hS hri hev i hG ht ?_ ?_
            · intro v' e; cases e
            · intro v' e μ' S' w' x t r
              injection e with e; subst e
              exact hQ _ a w' μ' S' t (V.rels_mono t.kp _ _ ht) rfl ⟨x, rfl, r⟩
          · cases he
        · rename_i hw
          rw [if_neg (by rw [want_ok hg hw ht]; simp)]
          refine evOps_ok hcall hspec hS l rest _ h2 he i hG (put_rels ht o.dst ⟨[], rfl, rfl⟩) ?_
          intro e' a' w'' μ'' S'' t' r' d' x'
          refine hQ e' a' w'' μ'' S'' t' r' (d'.trans ?_) x'
          cases o.dst <;> rfl
        · cases he
      · cases h1
    · cases hc

end
end Go.Ev
