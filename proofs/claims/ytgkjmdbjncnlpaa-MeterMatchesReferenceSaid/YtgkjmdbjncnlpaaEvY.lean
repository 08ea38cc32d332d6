/- Runs with hints: what the kernel cannot compute of unknown values is told, and told apart as facts. -/
import Derived.Test.YtgkjmdbjncnlpaaEvX
namespace Go.Ev
set_option linter.unusedVariables false
set_option linter.unusedSimpArgs false

/-- After so many operations, the next one answers this. -/
abbrev Hints := List (Nat × V)

inductive XR where
  | fail
  | ok (ex : Ex) (ts : List V) (h : List Blk) (hs : Hints) (fs : List Prop)

def AllP : List Prop → Prop
  | [] => True
  | p :: ps => p ∧ AllP ps

theorem AllP_append : ∀ {a b : List Prop}, AllP (a ++ b) → AllP a ∧ AllP b
  | [], _, h => ⟨trivial, h⟩
  | _ :: _, _, ⟨h1, h2⟩ => ⟨⟨h1, (AllP_append h2).1⟩, (AllP_append h2).2⟩

/-- Operations whose answer may be told: it does not hang on memory. -/
def RI.told : RI → Bool
  | .op (.load ..) => true
  | r => r.cls == 0

def XR.add (fs : List Prop) : XR → XR
  | .fail => .fail
  | .ok ex ts h hs fs' => .ok ex ts h hs (fs ++ fs')

def xOps (call : CallT) (sp : SpecT) : List RO → List V → List Blk → Hints → XR
  | [], ts, h, hs => .ok .nor ts h hs []
  | o :: r, ts, h, hs => match wantR ts o.guard with
    | some true => match hs with
      | (0, v) :: hs' => if o.ins.told then (xOps call sp r (putR ts o.dst v) h hs').add [evRI call sp o.ins ts [] = some (.ret v, [])] else .fail
      | (k + 1, v) :: hs' => match evRI call sp o.ins ts h with
        | some (.ret u, h') => xOps call sp r (putR ts o.dst u) h' ((k, v) :: hs')
        | some (.pan u, h') => .ok (.pan u) ts h' ((k, v) :: hs') []
        | none => .fail
      | [] => match evRI call sp o.ins ts h with
        | some (.ret u, h') => xOps call sp r (putR ts o.dst u) h' []
        | some (.pan u, h') => .ok (.pan u) ts h' [] []
        | none => .fail
    | some false => xOps call sp r (putR ts o.dst (.d (.tup []))) h hs
    | none => .fail

variable {call : CallT} {sp : SpecT}

theorem told_ok {ins : RI} (hc : ins.told = true) {ts : List V} {v : V} (h : List Blk) (he : evRI call sp ins ts [] = some (.ret v, [])) : evRI call sp ins ts h = some (.ret v, h) := by
  by_cases h0 : ins.cls = 0
  · exact (evRI_cls0 h0 he).2 h
  · cases ins with
    | op r =>
      cases r <;> simp [RI.told, RI.cls] at hc h0
      simp only [evRI, ev1, Option.map_map, Option.map_eq_some_iff] at he ⊢
      obtain ⟨u, e1, e⟩ := he
      injection e with e2 e3
      exact ⟨u, by simpa using loadV_app (l := h) e1, by rw [← e2]; rfl⟩
    | scall f args => simp [RI.cls] at h0
    | call f args => simp [RI.told, RI.cls] at hc
    | pan x => simp [RI.told, RI.cls] at hc

theorem xOps_ok : ∀ (l : List RO) (ts : List V) (h : List Blk) (hs : Hints) {ex : Ex} {ts' : List V} {h' : List Blk} {hs' : Hints} {fs : List Prop}, xOps call sp l ts h hs = .ok ex ts' h' hs' fs → AllP fs →
    evOps call sp l ts h = some (ex, ts', h')
  | [], ts, h, hs, ex, ts', h', hs', fs, e, _ => by
    simp only [xOps] at e; injection e with e1 e2 e3 _ _; subst e1; subst e2; subst e3; rfl
  | o :: r, ts, h, hs, ex, ts', h', hs', fs, e, hf => by
    simp only [xOps] at e
    simp only [evOps]
    split at e
    · rename_i hw
      rw [hw]
      split at e
      · rename_i v hs1
        split at e
        · rename_i ht
          cases hx : xOps call sp r (putR ts o.dst v) h hs1 with
          | fail => rw [hx] at e; cases e
          | ok ex1 ts1 h1 hs2 fs1 =>
            rw [hx] at e
            simp only [XR.add] at e
            injection e with e1 e2 e3 e4 e5; subst e1; subst e2; subst e3; subst e4; subst e5
            obtain ⟨hf1, hf2⟩ := AllP_append hf
            rw [told_ok ht h hf1.1]
            exact xOps_ok r _ _ _ hx hf2
        · cases e
      · split at e
        · rename_i he; rw [he]; exact xOps_ok r _ _ _ e hf
        · rename_i he; rw [he]; injection e with e1 e2 e3 _ _; subst e1; subst e2; subst e3; rfl
        · cases e
      · split at e
        · rename_i he; rw [he]; exact xOps_ok r _ _ _ e hf
        · rename_i he; rw [he]; injection e with e1 e2 e3 _ _; subst e1; subst e2; subst e3; rfl
        · cases e
    · rename_i hw; rw [hw]; exact xOps_ok r _ _ _ e hf
    · cases e

/-- What a loop ends with. -/
abbrev Ends := List (Ex × List V × List Blk)

inductive XC where
  | fail
  | ok (ex : Ex) (ts : List V) (h : List Blk) (hs : Hints) (ls : Ends) (fs : List Prop)

def XC.add (fs : List Prop) : XC → XC
  | .fail => .fail
  | .ok ex ts h hs ls fs' => .ok ex ts h hs ls (fs ++ fs')

def XR.up (ls : Ends) : XR → XC
  | .fail => .fail
  | .ok ex ts h hs fs => .ok ex ts h hs ls fs

def xC (call : CallT) (sp : SpecT) (n : Nat) : RC → List V → List Blk → Hints → Ends → XC
  | .skip, ts, h, hs, ls => .ok .nor ts h hs ls []
  | .ops l, ts, h, hs, ls => (xOps call sp l ts h hs).up ls
  | .par l, ts, h, hs, ls => match xOps call sp l ts h hs with
    | .ok .nor ts' h' hs' fs => .ok .nor ts' h' hs' ls fs
    | _ => .fail
  | .seq a b, ts, h, hs, ls => match xC call sp n a ts h hs ls with
    | .ok .nor ts' h' hs' ls' fs => (xC call sp n b ts' h' hs' ls').add fs
    | r => r
  | .cond c a b, ts, h, hs, ls => match c.ev ts with
    | .d (.bool true) => xC call sp n a ts h hs ls
    | .d (.bool false) => xC call sp n b ts h hs ls
    | _ => .fail
  | .block id c, ts, h, hs, ls => match xC call sp n c ts h hs ls with
    | .ok (.exit i) ts' h' hs' ls' fs => if i = id then .ok .nor ts' h' hs' ls' fs else .ok (.exit i) ts' h' hs' ls' fs
    | r => r
  | .loop _ keep c, ts, h, hs, ls => match ls with
    | (ex, ts', h') :: ls' => .ok ex ts' h' hs ls' [evLoop (evC call sp n c) keep n (forget keep 0 ts) h = some (ex, ts', h')]
    | [] => .fail
  | .exit id, ts, h, hs, ls => .ok (.exit id) ts h hs ls []
  | .scope c, ts, h, hs, ls => xC call sp n c ts h hs ls
  | .ret, ts, h, hs, ls => .ok .ret ts h hs ls []

theorem up_ok {r : XR} {ls ls' : Ends} {ex : Ex} {ts' : List V} {h' : List Blk} {hs' : Hints} {fs : List Prop} (e : r.up ls = .ok ex ts' h' hs' ls' fs) : r = .ok ex ts' h' hs' fs := by
  cases r with
  | fail => cases e
  | ok a b c d f => simp only [XR.up] at e; injection e with e1 e2 e3 e4 e5 e6; subst e1; subst e2; subst e3; subst e4; subst e6; rfl

theorem xC_ok (n : Nat) : ∀ (c : RC) (ts : List V) (h : List Blk) (hs : Hints) (ls : Ends) {ex : Ex} {ts' : List V} {h' : List Blk} {hs' : Hints} {ls' : Ends} {fs : List Prop}, xC call sp n c ts h hs ls = .ok ex ts' h' hs' ls' fs → AllP fs →
    evC call sp n c ts h = some (ex, ts', h')
  | .skip, ts, h, hs, ls, ex, ts', h', hs', ls', fs, e, _ => by
    simp only [xC] at e; injection e with e1 e2 e3 _ _ _; subst e1; subst e2; subst e3; rfl
  | .ops l, ts, h, hs, ls, ex, ts', h', hs', ls', fs, e, hf => by
    simp only [xC] at e
    simp only [evC]
    exact xOps_ok l ts h hs (up_ok e) hf
  | .par l, ts, h, hs, ls, ex, ts', h', hs', ls', fs, e, hf => by
    simp only [xC] at e
    split at e
    · rename_i ts1 h1 hs1 fs1 hx
      injection e with e1 e2 e3 e4 e5 e6; subst e1; subst e2; subst e3; subst e4; subst e6
      simp only [evC, xOps_ok l ts h hs hx hf]
    · cases e
  | .seq a b, ts, h, hs, ls, ex, ts', h', hs', ls', fs, e, hf => by
    simp only [xC] at e
    simp only [evC]
    cases hx : xC call sp n a ts h hs ls with
    | fail => rw [hx] at e; cases e
    | ok ex1 ts1 h1 hs1 ls1 fs1 =>
      rw [hx] at e
      have other : XC.ok ex1 ts1 h1 hs1 ls1 fs1 = .ok ex ts' h' hs' ls' fs → ex1 ≠ .nor → (match evC call sp n a ts h with | some (.nor, ts', h') => evC call sp n b ts' h' | r => r) = some (ex, ts', h') := by
        intro e hne
        injection e with e1 e2 e3 e4 e5 e6; subst e1; subst e2; subst e3; subst e6
        rw [xC_ok n a ts h hs ls hx hf]
        cases ex1 <;> first | rfl | exact absurd rfl hne
      cases ex1 with
      | nor =>
        simp only at e
        cases hy : xC call sp n b ts1 h1 hs1 ls1 with
        | fail => rw [hy] at e; cases e
        | ok ex2 ts2 h2 hs2 ls2 fs2 =>
          rw [hy] at e
          simp only [XC.add] at e
          injection e with e1 e2 e3 e4 e5 e6; subst e1; subst e2; subst e3; subst e6
          obtain ⟨hf1, hf2⟩ := AllP_append hf
          rw [xC_ok n a ts h hs ls hx hf1]
          exact xC_ok n b _ _ _ _ hy hf2
      | exit i => exact other e (by simp)
      | ret => exact other e (by simp)
      | pan v => exact other e (by simp)
  | .cond c a b, ts, h, hs, ls, ex, ts', h', hs', ls', fs, e, hf => by
    simp only [xC] at e
    simp only [evC]
    split at e
    · rename_i hc; rw [hc]; exact xC_ok n a _ _ _ _ e hf
    · rename_i hc; rw [hc]; exact xC_ok n b _ _ _ _ e hf
    · cases e
  | .block id c, ts, h, hs, ls, ex, ts', h', hs', ls', fs, e, hf => by
    simp only [xC] at e
    simp only [evC]
    cases hx : xC call sp n c ts h hs ls with
    | fail => rw [hx] at e; cases e
    | ok ex1 ts1 h1 hs1 ls1 fs1 =>
      rw [hx] at e
      have hfs : fs1 = fs := by
        cases ex1 with
        | exit i => simp only at e; split at e <;> (injection e)
        | _ => simp only at e; injection e
      subst hfs
      rw [xC_ok n c ts h hs ls hx hf]
      cases ex1 with
      | exit i =>
        simp only at e ⊢
        split at e
        · rename_i hi; injection e with e1 e2 e3 _ _ _; subst e1; subst e2; subst e3; simp [hi]
        · rename_i hi; injection e with e1 e2 e3 _ _ _; subst e1; subst e2; subst e3; simp [hi]
      | nor => simp only at e ⊢; injection e with e1 e2 e3 _ _ _; subst e1; subst e2; subst e3; rfl
      | ret => simp only at e ⊢; injection e with e1 e2 e3 _ _ _; subst e1; subst e2; subst e3; rfl
      | pan v => simp only at e ⊢; injection e with e1 e2 e3 _ _ _; subst e1; subst e2; subst e3; rfl
  | .loop id keep c, ts, h, hs, ls, ex, ts', h', hs', ls', fs, e, hf => by
    simp only [xC] at e
    simp only [evC]
    split at e
    · injection e with e1 e2 e3 e4 e5 e6; subst e1; subst e2; subst e3; subst e6
      exact hf.1
    · cases e
  | .exit id, ts, h, hs, ls, ex, ts', h', hs', ls', fs, e, _ => by
    simp only [xC] at e; injection e with e1 e2 e3 _ _ _; subst e1; subst e2; subst e3; rfl
  | .scope c, ts, h, hs, ls, ex, ts', h', hs', ls', fs, e, hf => by
    simp only [xC] at e
    simp only [evC]
    exact xC_ok n c _ _ _ _ e hf
  | .ret, ts, h, hs, ls, ex, ts', h', hs', ls', fs, e, _ => by
    simp only [xC] at e; injection e with e1 e2 e3 _ _ _; subst e1; subst e2; subst e3; rfl

/-- A body's run with hints: the answer, memory, and what must be shown. -/
def xBody (call : CallT) (sp : SpecT) (n : Nat) (rf : RF) (args : List V) (h : List Blk) (hs : Hints) (ls : Ends) : Option (Out × List Blk × List Prop) :=
  match xC call sp n rf.code (args ++ List.replicate (rf.ntmps - args.length) (.d (.tup []))) h hs ls with
  | .ok .nor ts h' _ _ fs | .ok .ret ts h' _ _ fs => (evRes ts h' rf.res).map fun vs => (.ret ((compact h.length [mkRes vs] h').1.headD (.d .undef)), (compact h.length [mkRes vs] h').2, fs)
  | .ok (.pan v) _ h' _ _ fs => some (.pan v, h', fs)
  | _ => none

theorem xBody_ok {n : Nat} {rf : RF} {args : List V} {h : List Blk} (hs : Hints) (ls : Ends) {out : Out} {h' : List Blk} {fs : List Prop} (e : xBody call sp n rf args h hs ls = some (out, h', fs)) (hf : AllP fs) :
    evBody call sp n rf args h = some (out, h') := by
  unfold xBody at e
  unfold evBody
  cases hx : xC call sp n rf.code (args ++ List.replicate (rf.ntmps - args.length) (.d (.tup []))) h hs ls with
  | fail => rw [hx] at e; cases e
  | ok ex ts h1 hs1 ls1 fs1 =>
    rw [hx] at e
    cases ex with
    | nor =>
      simp only [Option.map_eq_some_iff] at e
      obtain ⟨vs, e1, e2⟩ := e
      injection e2 with e2 e3; injection e3 with e3 e4; subst e2; subst e3; subst e4
      rw [xC_ok n _ _ _ _ _ hx hf]
      simp only [e1, Option.map_some]
    | ret =>
      simp only [Option.map_eq_some_iff] at e
      obtain ⟨vs, e1, e2⟩ := e
      injection e2 with e2 e3; injection e3 with e3 e4; subst e2; subst e3; subst e4
      rw [xC_ok n _ _ _ _ _ hx hf]
      simp only [e1, Option.map_some]
    | pan v =>
      simp only at e
      injection e with e; injection e with e1 e2; injection e2 with e2 e3; subst e1; subst e2; subst e3
      rw [xC_ok n _ _ _ _ _ hx hf]
    | exit i => cases e

theorem xF_ok {body : FuncId → Option RF} {n : Nat} {f : FuncId} {rf : RF} (hb : body f = some rf) {args : List V} {h : List Blk} (hs : Hints) (ls : Ends) {out : Out} {h' : List Blk} {fs : List Prop}
    (e : xBody (evF body sp n) sp n rf args h hs ls = some (out, h', fs)) (hf : AllP fs) : evF body sp (n + 1) f args h = some (out, h') := by
  simp only [evF, hb]
  exact xBody_ok hs ls e hf

end Go.Ev
