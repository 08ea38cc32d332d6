/- Functions of plain data, and that the program computes them: printed by a program of mine. -/
import Derived.Test.YtgkjmdbjncnlpaaKa
namespace Go.Proofs.Ytgkjmdbjncnlpaa
open Go.Ev
set_option maxRecDepth 100000
set_option maxHeartbeats 4000000
set_option linter.unusedVariables false
set_option linter.unusedSimpArgs false

def spl19 (n : Nat) : List (FuncId × Ev.Fn) := []

def sp19 (n : Nat) : SpecT := mkSp isS (spl19 n)

theorem spok19 (n : Nat) : SpecOK Try.prog G0 (sp19 n) := mkSp_ok callS all_nil

def ck19 {ρ : Type} (n d : Nat) : CallK ρ := kF body (sp19 n) n d

def S19_2 {ρ : Type} (n : Nat) (a1 : Int) (a2 : Int) (a3 : Nat) (a4 : List D) (a5 : Bool) (a6 : Int) (a7 : Int) (k0 : Option ρ) (k1 : Int → Option ρ) (k2 : Option ρ) : Option ρ :=
  cond (decide (a7 < a6)) (ass (decide ((0 : Int) ≤ a7) && decide (a7 < (a3 : Int))) (gC (List.drop (Int.toNat a7 * 1) a4) fun x1 x2 => gI .i64 x1 fun x3 => cond (decide (x3 < a1)) (k0) (cond (decide (x3 > a2)) (k0) (k1 (IntKind.i64.wrap (a7 + (1 : Int))))))) (k2)

theorem tS19_2 {ρ : Type} (n d : Nat) (a1 : Int) (a2 : Int) (a3 : Nat) (a4 : List D) (a5 : Bool) (a6 : Int) (a7 : Int) (K : Ex → List V → List KB → Option ρ) :
    kC (ck19 n (d + 7)) (sp19 n) n c19_19 [(.d (.int .i64 a1)), (.d (.int .i64 a2)), vN, vN, vN, vN, vN, vN, vN, (.d (.lst 1 a3 a4 a5)), (.d (.int .i64 a6)), (.d (.int .i64 a7)), vN, vN, vN, vN, vN, vN, vN, vN, vN, vN, vN, vN] [] (tidyK ti19_20 [] 0 K) =
    S19_2 n a1 a2 a3 a4 a5 a6 a7 (K .ret [vN, vN, vN, vN, vN, vN, (.d (.bool false)), vN, vN, vN, vN, vN, vN, vN, vN, vN, vN, vN, vN, vN, vN, vN, vN, vN] []) (fun (q1 : Int) => K .nor [(.d (.int .i64 a1)), (.d (.int .i64 a2)), vN, vN, vN, vN, vN, vN, vN, (.d (.lst 1 a3 a4 a5)), (.d (.int .i64 a6)), (.d (.int .i64 q1)), vN, vN, vN, vN, vN, vN, vN, vN, vN, vN, vN, vN] []) (K (.exit 0) [(.d (.int .i64 a1)), (.d (.int .i64 a2)), vN, vN, vN, vN, vN, vN, vN, (.d (.lst 1 a3 a4 a5)), (.d (.int .i64 a6)), (.d (.int .i64 a7)), vN, vN, vN, vN, vN, vN, vN, vN, vN, vN, vN, vN] []) := by kernel_rfl

def L19_3 {ρ : Type} (n : Nat) : Nat → Int → Int → Nat → (List D) → Bool → Int → Int → Option ρ → (Int → Option ρ) → Option ρ
  | 0, _, _, _, _, _, _, _, _, _ => none
  | m + 1, a1, a2, a3, a4, a5, a6, a7, k0, k1 => S19_2 n a1 a2 a3 a4 a5 a6 a7 (k0) (fun x1 => L19_3 n m a1 a2 a3 a4 a5 a6 x1 k0 k1) (k1 a7)

theorem tL19_3 {ρ : Type} (n d : Nat) (K : Ex → List V → List KB → Option ρ) : ∀ (m : Nat) (a1 : Int) (a2 : Int) (a3 : Nat) (a4 : List D) (a5 : Bool) (a6 : Int) (a7 : Int),
    kLoop (kC (ck19 n (d + 7)) (sp19 n) n c19_19) ti19_20 [] m [(.d (.int .i64 a1)), (.d (.int .i64 a2)), vN, vN, vN, vN, vN, vN, vN, (.d (.lst 1 a3 a4 a5)), (.d (.int .i64 a6)), (.d (.int .i64 a7)), vN, vN, vN, vN, vN, vN, vN, vN, vN, vN, vN, vN] [] K =
    L19_3 n m a1 a2 a3 a4 a5 a6 a7 (K .ret [vN, vN, vN, vN, vN, vN, (.d (.bool false)), vN, vN, vN, vN, vN, vN, vN, vN, vN, vN, vN, vN, vN, vN, vN, vN, vN] []) (fun (q1 : Int) => K (.exit 0) [(.d (.int .i64 a1)), (.d (.int .i64 a2)), vN, vN, vN, vN, vN, vN, vN, (.d (.lst 1 a3 a4 a5)), (.d (.int .i64 a6)), (.d (.int .i64 q1)), vN, vN, vN, vN, vN, vN, vN, vN, vN, vN, vN, vN] []) := by
  intro m
  induction m with
  | zero => intros; kernel_rfl
  | succ m ih =>
    intro a1 a2 a3 a4 a5 a6 a7
    exact (show _ = kC (ck19 n (d + 7)) (sp19 n) n c19_19 [(.d (.int .i64 a1)), (.d (.int .i64 a2)), vN, vN, vN, vN, vN, vN, vN, (.d (.lst 1 a3 a4 a5)), (.d (.int .i64 a6)), (.d (.int .i64 a7)), vN, vN, vN, vN, vN, vN, vN, vN, vN, vN, vN, vN] [] (tidyK ti19_20 [] 0  (seqK (kLoop (kC (ck19 n (d + 7)) (sp19 n) n c19_19) ti19_20 [] m) K)) from by kernel_rfl).trans ((tS19_2 n d a1 a2 a3 a4 a5 a6 a7 _).trans (by simp only [seqK_nor, ih, seqK_exit, seqK_ret]; kernel_rfl))

def S19_4 {ρ : Type} (n : Nat) (k0 : Option ρ) : Option ρ :=
  k0

theorem tS19_4 {ρ : Type} (n d : Nat) (K : Out → List KB → Option ρ) :
    (blockK 0 (seqK (kC (ck19 n (d + 7)) (sp19 n) n c19_25) (endK [(.tmp 6 none)] 0 K))) .ret [vN, vN, vN, vN, vN, vN, (.d (.bool false)), vN, vN, vN, vN, vN, vN, vN, vN, vN, vN, vN, vN, vN, vN, vN, vN, vN] [] =
    S19_4 n (K (.ret (.d (.bool false))) []) := by kernel_rfl

def S19_5 {ρ : Type} (n : Nat) (a1 : Int) (a2 : Int) (a3 : Nat) (a4 : List D) (a5 : Bool) (a6 : Int) (a7 : Int) (k0 : Option ρ) : Option ρ :=
  k0

theorem tS19_5 {ρ : Type} (n d : Nat) (a1 : Int) (a2 : Int) (a3 : Nat) (a4 : List D) (a5 : Bool) (a6 : Int) (a7 : Int) (K : Out → List KB → Option ρ) :
    (blockK 0 (seqK (kC (ck19 n (d + 7)) (sp19 n) n c19_25) (endK [(.tmp 6 none)] 0 K))) (.exit 0) [(.d (.int .i64 a1)), (.d (.int .i64 a2)), vN, vN, vN, vN, vN, vN, vN, (.d (.lst 1 a3 a4 a5)), (.d (.int .i64 a6)), (.d (.int .i64 a7)), vN, vN, vN, vN, vN, vN, vN, vN, vN, vN, vN, vN] [] =
    S19_5 n a1 a2 a3 a4 a5 a6 a7 (K (.ret (.d (.bool true))) []) := by kernel_rfl

def S19_1 {ρ : Type} (n : Nat) (a1 : Int) (a2 : Int) (a3 : Nat) (a4 : List D) (a5 : Bool) (k0 : Bool → Option ρ) : Option ρ :=
  L19_3 n n a1 a2 a3 a4 a5 (a3 : Int) (0 : Int) (S19_4 n (k0 false)) (fun x1 => S19_5 n a1 a2 a3 a4 a5 (a3 : Int) x1 (k0 true))

theorem hS19_1 {ρ : Type} (n d : Nat) (a1 : Int) (a2 : Int) (a3 : Nat) (a4 : List D) (a5 : Bool) (K : Out → List KB → Option ρ) :
    kC (ck19 n (d + 7)) (sp19 n) n c19_27 [(.d (.int .i64 a1)), (.d (.int .i64 a2)), (.d (.lst 1 a3 a4 a5)), vU, vU, vU, vU, vU, vU, vU, vU, vU, vU, vU, vU, vU, vU, vU, vU, vU, vU, vU, vU, vU] [] (endK [(.tmp 6 none)] 0 K) =
    kLoop (kC (ck19 n (d + 7)) (sp19 n) n c19_19) ti19_20 [] n [(.d (.int .i64 a1)), (.d (.int .i64 a2)), vN, vN, vN, vN, vN, vN, vN, (.d (.lst 1 a3 a4 a5)), (.d (.int .i64 (a3 : Int))), (.d (.int .i64 (0))), vN, vN, vN, vN, vN, vN, vN, vN, vN, vN, vN, vN] [] (blockK 0 (seqK (kC (ck19 n (d + 7)) (sp19 n) n c19_25) (endK [(.tmp 6 none)] 0 K))) := by kernel_rfl

theorem tS19_1 {ρ : Type} (n d : Nat) (a1 : Int) (a2 : Int) (a3 : Nat) (a4 : List D) (a5 : Bool) (K : Out → List KB → Option ρ) :
    kC (ck19 n (d + 7)) (sp19 n) n c19_27 [(.d (.int .i64 a1)), (.d (.int .i64 a2)), (.d (.lst 1 a3 a4 a5)), vU, vU, vU, vU, vU, vU, vU, vU, vU, vU, vU, vU, vU, vU, vU, vU, vU, vU, vU, vU, vU] [] (endK [(.tmp 6 none)] 0 K) =
    S19_1 n a1 a2 a3 a4 a5 (fun (q1 : Bool) => K (.ret (.d (.bool q1))) []) :=
  (hS19_1 n d a1 a2 a3 a4 a5 K).trans (by simp only [tL19_3, tS19_4, tS19_5]; kernel_rfl)

theorem tF19 {ρ : Type} (n d : Nat) (b1 : Int) (b2 : Int) (b3 : Nat) (b4 : List D) (b5 : Bool) (K : Out → List KB → Option ρ) :
    ck19 n (d + 8) 19 [.d (.int .i64 b1), .d (.int .i64 b2), .d (.lst 1 b3 b4 b5)] [] K =
    S19_1 n b1 b2 b3 b4 b5 (fun (q1 : Bool) => K (.ret (.d (.bool q1))) []) :=
  (show _ = kC (ck19 n (d + 7)) (sp19 n) n c19_27 [(.d (.int .i64 b1)), (.d (.int .i64 b2)), (.d (.lst 1 b3 b4 b5)), vU, vU, vU, vU, vU, vU, vU, vU, vU, vU, vU, vU, vU, vU, vU, vU, vU, vU, vU, vU, vU] [] (endK [(.tmp 6 none)] 0 K) from by kernel_rfl).trans (tS19_1 n d b1 b2 b3 b4 b5 K)

def F19 (n : Nat) : Ev.Fn
  | [(.int .i64 b1), (.int .i64 b2), (.lst 1 b3 b4 b5)] => S19_1 n b1 b2 b3 b4 b5 (fun (q1 : Bool) => some (.bool q1))
  | _ => none

theorem p19 (n : Nat) : Pure Try.prog G0 19 (F19 n) := by
  refine pure_k bodyOK (spok19 n) (mkSp_S _) mix (callable_of (by kernel_rfl)) n 8 ?_
  intro ds x h
  unfold F19 at h
  split at h
  · rename_i b1 b2 b3 b4 b5
    rw [← h]
    exact (tF19 n 0 b1 b2 b3 b4 b5 fin).trans (by kernel_rfl)
  · cases h

def spl18 (n : Nat) : List (FuncId × Ev.Fn) := [(19, F19 n)]

def sp18 (n : Nat) : SpecT := mkSp isS (spl18 n)

theorem spok18 (n : Nat) : SpecOK Try.prog G0 (sp18 n) := mkSp_ok callS (all_cons (p19 n) all_nil)

def ck18 {ρ : Type} (n d : Nat) : CallK ρ := kF body (sp18 n) n d

def S18_1 {ρ : Type} (n : Nat) (a1 : Int) (a2 : Int) (a3 : Bool) (k0 : Bool → Option ρ) : Option ρ :=
  (F19 n [(.int .i64 (0)), (.int .i64 (1000000)), (.lst 1 1 [(.int .i64 a1)] true)]).bind fun x1 => gB x1 fun x2 => cond x2 ((F19 n [(.int .i64 (-1000000000000000)), (.int .i64 (1000000000000000)), (.lst 1 1 [(.int .i64 a2)] true)]).bind fun x3 => gB x3 fun x4 => k0 x4) (k0 false)

theorem tS18_1 {ρ : Type} (n d : Nat) (a1 : Int) (a2 : Int) (a3 : Bool) (K : Out → List KB → Option ρ) :
    kC (ck18 n (d + 7)) (sp18 n) n c18_4 [(.d (.agg [(.int .i64 a1), (.int .i64 a2), (.bool a3)])), vU, vU, vU, vU, vU, vU, vU, vU, vU, vU, vU, vU, vU, vU] [] (endK [(.tmp 2 none)] 0 K) =
    S18_1 n a1 a2 a3 (fun (q1 : Bool) => K (.ret (.d (.bool q1))) []) := by kernel_rfl

theorem tF18 {ρ : Type} (n d : Nat) (b1 : Int) (b2 : Int) (b3 : Bool) (K : Out → List KB → Option ρ) :
    ck18 n (d + 8) 18 [.d (.agg [(.int .i64 b1), (.int .i64 b2), (.bool b3)])] [] K =
    S18_1 n b1 b2 b3 (fun (q1 : Bool) => K (.ret (.d (.bool q1))) []) :=
  (show _ = kC (ck18 n (d + 7)) (sp18 n) n c18_4 [(.d (.agg [(.int .i64 b1), (.int .i64 b2), (.bool b3)])), vU, vU, vU, vU, vU, vU, vU, vU, vU, vU, vU, vU, vU, vU] [] (endK [(.tmp 2 none)] 0 K) from by kernel_rfl).trans (tS18_1 n d b1 b2 b3 K)

def F18 (n : Nat) : Ev.Fn
  | [(.agg [(.int .i64 b1), (.int .i64 b2), (.bool b3)])] => S18_1 n b1 b2 b3 (fun (q1 : Bool) => some (.bool q1))
  | _ => none

theorem p18 (n : Nat) : Pure Try.prog G0 18 (F18 n) := by
  refine pure_k bodyOK (spok18 n) (mkSp_S _) mix (callable_of (by kernel_rfl)) n 8 ?_
  intro ds x h
  unfold F18 at h
  split at h
  · rename_i b1 b2 b3
    rw [← h]
    exact (tF18 n 0 b1 b2 b3 fin).trans (by kernel_rfl)
  · cases h

def spl22 (n : Nat) : List (FuncId × Ev.Fn) := []

def sp22 (n : Nat) : SpecT := mkSp isS (spl22 n)

theorem spok22 (n : Nat) : SpecOK Try.prog G0 (sp22 n) := mkSp_ok callS all_nil

def ck22 {ρ : Type} (n d : Nat) : CallK ρ := kF body (sp22 n) n d

def S22_1 {ρ : Type} (n : Nat) (a1 : Int) (a2 : Int) (a3 : Bool) (k0 : Bool → Option ρ) : Option ρ :=
  cond (decide (a1 ≥ (0 : Int))) (cond (decide (a1 ≤ (1000000 : Int))) (cond (decide (a2 ≥ (-1000000000000000 : Int))) (k0 (decide (a2 ≤ (1000000000000000 : Int)))) (k0 false)) (k0 false)) (k0 false)

theorem tS22_1 {ρ : Type} (n d : Nat) (a1 : Int) (a2 : Int) (a3 : Bool) (K : Out → List KB → Option ρ) :
    kC (ck22 n (d + 7)) (sp22 n) n c22_4 [(.d (.agg [(.int .i64 a1), (.int .i64 a2), (.bool a3)])), vU, vU, vU, vU, vU, vU, vU, vU, vU, vU, vU, vU, vU, vU, vU, vU, vU, vU, vU, vU] [] (endK [(.tmp 2 none)] 0 K) =
    S22_1 n a1 a2 a3 (fun (q1 : Bool) => K (.ret (.d (.bool q1))) []) := by kernel_rfl

theorem tF22 {ρ : Type} (n d : Nat) (b1 : Int) (b2 : Int) (b3 : Bool) (K : Out → List KB → Option ρ) :
    ck22 n (d + 8) 22 [.d (.agg [(.int .i64 b1), (.int .i64 b2), (.bool b3)])] [] K =
    S22_1 n b1 b2 b3 (fun (q1 : Bool) => K (.ret (.d (.bool q1))) []) :=
  (show _ = kC (ck22 n (d + 7)) (sp22 n) n c22_4 [(.d (.agg [(.int .i64 b1), (.int .i64 b2), (.bool b3)])), vU, vU, vU, vU, vU, vU, vU, vU, vU, vU, vU, vU, vU, vU, vU, vU, vU, vU, vU, vU] [] (endK [(.tmp 2 none)] 0 K) from by kernel_rfl).trans (tS22_1 n d b1 b2 b3 K)

def F22 (n : Nat) : Ev.Fn
  | [(.agg [(.int .i64 b1), (.int .i64 b2), (.bool b3)])] => S22_1 n b1 b2 b3 (fun (q1 : Bool) => some (.bool q1))
  | _ => none

theorem p22 (n : Nat) : Pure Try.prog G0 22 (F22 n) := by
  refine pure_k bodyOK (spok22 n) (mkSp_S _) mix (callable_of (by kernel_rfl)) n 8 ?_
  intro ds x h
  unfold F22 at h
  split at h
  · rename_i b1 b2 b3
    rw [← h]
    exact (tF22 n 0 b1 b2 b3 fin).trans (by kernel_rfl)
  · cases h

def spl23 (n : Nat) : List (FuncId × Ev.Fn) := []

def sp23 (n : Nat) : SpecT := mkSp isS (spl23 n)

theorem spok23 (n : Nat) : SpecOK Try.prog G0 (sp23 n) := mkSp_ok callS all_nil

def ck23 {ρ : Type} (n d : Nat) : CallK ρ := kF body (sp23 n) n d

def S23_1 {ρ : Type} (n : Nat) (a1 : Int) (a2 : Int) (k0 : Int → Option ρ) : Option ρ :=
  k0 (IntKind.i64.wrap ((IntKind.i64.wrap ((2300 : Int) * a1)) * a2))

theorem tS23_1 {ρ : Type} (n d : Nat) (a1 : Int) (a2 : Int) (K : Out → List KB → Option ρ) :
    kC (ck23 n (d + 7)) (sp23 n) n c23_4 [(.d (.int .i64 a1)), (.d (.int .i64 a2)), vU, vU, vU, vU, vU, vU, vU] [] (endK [(.tmp 4 none)] 0 K) =
    S23_1 n a1 a2 (fun (q1 : Int) => K (.ret (.d (.int .i64 q1))) []) := by kernel_rfl

theorem tF23 {ρ : Type} (n d : Nat) (b1 : Int) (b2 : Int) (K : Out → List KB → Option ρ) :
    ck23 n (d + 8) 23 [.d (.int .i64 b1), .d (.int .i64 b2)] [] K =
    S23_1 n b1 b2 (fun (q1 : Int) => K (.ret (.d (.int .i64 q1))) []) :=
  (show _ = kC (ck23 n (d + 7)) (sp23 n) n c23_4 [(.d (.int .i64 b1)), (.d (.int .i64 b2)), vU, vU, vU, vU, vU, vU, vU] [] (endK [(.tmp 4 none)] 0 K) from by kernel_rfl).trans (tS23_1 n d b1 b2 K)

def F23 (n : Nat) : Ev.Fn
  | [(.int .i64 b1), (.int .i64 b2)] => S23_1 n b1 b2 (fun (q1 : Int) => some (.int .i64 q1))
  | _ => none

theorem p23 (n : Nat) : Pure Try.prog G0 23 (F23 n) := by
  refine pure_k bodyOK (spok23 n) (mkSp_S _) mix (callable_of (by kernel_rfl)) n 8 ?_
  intro ds x h
  unfold F23 at h
  split at h
  · rename_i b1 b2
    rw [← h]
    exact (tF23 n 0 b1 b2 fin).trans (by kernel_rfl)
  · cases h

def spl16 (n : Nat) : List (FuncId × Ev.Fn) := [(22, F22 n)]

def sp16 (n : Nat) : SpecT := mkSp isS (spl16 n)

theorem spok16 (n : Nat) : SpecOK Try.prog G0 (sp16 n) := mkSp_ok callS (all_cons (p22 n) all_nil)

def ck16 {ρ : Type} (n d : Nat) : CallK ρ := kF body (sp16 n) n d

def S16_1 {ρ : Type} (n : Nat) (a1 : Int) (a2 : Int) (a3 : Bool) (a4 : Nat) (a5 : List D) (a6 : Bool) (k0 : Bool → Option ρ) : Option ρ :=
  (F22 n [(.agg [(.int .i64 a1), (.int .i64 a2), (.bool a3)])]).bind fun x1 => gB x1 fun x2 => cond x2 (cond (decide (a2 > (-500000000000000 : Int))) (cond (decide (a2 < (500000000000000 : Int))) (k0 (decide ((a4 : Int) ≤ (500 : Int)))) (k0 false)) (k0 false)) (k0 false)

theorem tS16_1 {ρ : Type} (n d : Nat) (a1 : Int) (a2 : Int) (a3 : Bool) (a4 : Nat) (a5 : List D) (a6 : Bool) (K : Out → List KB → Option ρ) :
    kC (ck16 n (d + 7)) (sp16 n) n c16_4 [(.d (.agg [(.int .i64 a1), (.int .i64 a2), (.bool a3)])), (.d (.lst 2 a4 a5 a6)), vU, vU, vU, vU, vU, vU, vU, vU, vU, vU, vU, vU, vU, vU, vU, vU, vU, vU, vU, vU] [] (endK [(.tmp 4 none)] 0 K) =
    S16_1 n a1 a2 a3 a4 a5 a6 (fun (q1 : Bool) => K (.ret (.d (.bool q1))) []) := by kernel_rfl

theorem tF16 {ρ : Type} (n d : Nat) (b1 : Int) (b2 : Int) (b3 : Bool) (b4 : Nat) (b5 : List D) (b6 : Bool) (K : Out → List KB → Option ρ) :
    ck16 n (d + 8) 16 [.d (.agg [(.int .i64 b1), (.int .i64 b2), (.bool b3)]), .d (.lst 2 b4 b5 b6)] [] K =
    S16_1 n b1 b2 b3 b4 b5 b6 (fun (q1 : Bool) => K (.ret (.d (.bool q1))) []) :=
  (show _ = kC (ck16 n (d + 7)) (sp16 n) n c16_4 [(.d (.agg [(.int .i64 b1), (.int .i64 b2), (.bool b3)])), (.d (.lst 2 b4 b5 b6)), vU, vU, vU, vU, vU, vU, vU, vU, vU, vU, vU, vU, vU, vU, vU, vU, vU, vU, vU, vU] [] (endK [(.tmp 4 none)] 0 K) from by kernel_rfl).trans (tS16_1 n d b1 b2 b3 b4 b5 b6 K)

def F16 (n : Nat) : Ev.Fn
  | [(.agg [(.int .i64 b1), (.int .i64 b2), (.bool b3)]), (.lst 2 b4 b5 b6)] => S16_1 n b1 b2 b3 b4 b5 b6 (fun (q1 : Bool) => some (.bool q1))
  | _ => none

theorem p16 (n : Nat) : Pure Try.prog G0 16 (F16 n) := by
  refine pure_k bodyOK (spok16 n) (mkSp_S _) mix (callable_of (by kernel_rfl)) n 8 ?_
  intro ds x h
  unfold F16 at h
  split at h
  · rename_i b1 b2 b3 b4 b5 b6
    rw [← h]
    exact (tF16 n 0 b1 b2 b3 b4 b5 b6 fin).trans (by kernel_rfl)
  · cases h

def spl10 (n : Nat) : List (FuncId × Ev.Fn) := [(18, F18 n), (19, F19 n)]

def sp10 (n : Nat) : SpecT := mkSp isS (spl10 n)

theorem spok10 (n : Nat) : SpecOK Try.prog G0 (sp10 n) := mkSp_ok callS (all_cons (p18 n) (all_cons (p19 n) all_nil))

def ck10 {ρ : Type} (n d : Nat) : CallK ρ := kF body (sp10 n) n d

def S10_1 {ρ : Type} (n : Nat) (a1 : Int) (a2 : Int) (a3 : Bool) (a4 : Int) (a5 : Int) (k0 : Int → Int → Bool → Int → Option ρ) : Option ρ :=
  (F18 n [(.agg [(.int .i64 a1), (.int .i64 a2), (.bool a3)])]).bind fun x1 => gB x1 fun x2 => cond (!x2) (k0 (0 : Int) (0 : Int) false (1 : Int)) ((F19 n [(.int .i64 (0)), (.int .i64 (80)), (.lst 1 1 [(.int .i64 a4)] true)]).bind fun x3 => gB x3 fun x4 => cond (!x4) (k0 (0 : Int) (0 : Int) false (1 : Int)) ((F19 n [(.int .i64 (0)), (.int .i64 (3)), (.lst 1 1 [(.int .i64 a5)] true)]).bind fun x5 => gB x5 fun x6 => cond (!x6) (k0 (0 : Int) (0 : Int) false (1 : Int)) (cond a3 ((F18 n [(.agg [(.int .i64 a1), (.int .i64 (IntKind.i64.wrap (a2 - (IntKind.i64.wrap ((IntKind.i64.wrap ((2300 : Int) * a4)) * a5))))), (.bool a3)])]).bind fun x7 => gB x7 fun x8 => cond (!x8) (k0 (0 : Int) (0 : Int) false (3 : Int)) (k0 a1 (IntKind.i64.wrap (a2 - (IntKind.i64.wrap ((IntKind.i64.wrap ((2300 : Int) * a4)) * a5)))) a3 (0 : Int))) ((F18 n [(.agg [(.int .i64 a1), (.int .i64 (IntKind.i64.wrap (a2 + (IntKind.i64.wrap ((IntKind.i64.wrap ((2300 : Int) * a4)) * a5))))), (.bool a3)])]).bind fun x9 => gB x9 fun x10 => cond (!x10) (k0 (0 : Int) (0 : Int) false (3 : Int)) (k0 a1 (IntKind.i64.wrap (a2 + (IntKind.i64.wrap ((IntKind.i64.wrap ((2300 : Int) * a4)) * a5)))) a3 (0 : Int))))))

theorem tS10_1 {ρ : Type} (n d : Nat) (a1 : Int) (a2 : Int) (a3 : Bool) (a4 : Int) (a5 : Int) (K : Out → List KB → Option ρ) :
    kC (ck10 n (d + 7)) (sp10 n) n c10_32 [(.d (.agg [(.int .i64 a1), (.int .i64 a2), (.bool a3)])), (.d (.int .i64 a4)), (.d (.int .i64 a5)), vU, vU, vU, vU, vU, vU, vU, vU, vU, vU, vU, vU, vU, vU, vU, vU, vU, vU, vU, vU, vU, vU, vU, vU, vU, vU, vU, vU, vU, vU, vU, vU, vU, vU, vU, vU, vU, vU, vU, vU, vU, vU, vU] [] (endK [(.cell 6 true 3), (.tmp 7 none)] 0 K) =
    S10_1 n a1 a2 a3 a4 a5 (fun (q1 : Int) (q2 : Int) (q3 : Bool) (q4 : Int) => K (.ret (.d (.tup [(.agg [(.int .i64 q1), (.int .i64 q2), (.bool q3)]), (.int .i64 q4)]))) []) := by kernel_rfl

theorem tF10 {ρ : Type} (n d : Nat) (b1 : Int) (b2 : Int) (b3 : Bool) (b4 : Int) (b5 : Int) (K : Out → List KB → Option ρ) :
    ck10 n (d + 8) 10 [.d (.agg [(.int .i64 b1), (.int .i64 b2), (.bool b3)]), .d (.int .i64 b4), .d (.int .i64 b5)] [] K =
    S10_1 n b1 b2 b3 b4 b5 (fun (q1 : Int) (q2 : Int) (q3 : Bool) (q4 : Int) => K (.ret (.d (.tup [(.agg [(.int .i64 q1), (.int .i64 q2), (.bool q3)]), (.int .i64 q4)]))) []) :=
  (show _ = kC (ck10 n (d + 7)) (sp10 n) n c10_32 [(.d (.agg [(.int .i64 b1), (.int .i64 b2), (.bool b3)])), (.d (.int .i64 b4)), (.d (.int .i64 b5)), vU, vU, vU, vU, vU, vU, vU, vU, vU, vU, vU, vU, vU, vU, vU, vU, vU, vU, vU, vU, vU, vU, vU, vU, vU, vU, vU, vU, vU, vU, vU, vU, vU, vU, vU, vU, vU, vU, vU, vU, vU, vU, vU] [] (endK [(.cell 6 true 3), (.tmp 7 none)] 0 K) from by kernel_rfl).trans (tS10_1 n d b1 b2 b3 b4 b5 K)

def F10 (n : Nat) : Ev.Fn
  | [(.agg [(.int .i64 b1), (.int .i64 b2), (.bool b3)]), (.int .i64 b4), (.int .i64 b5)] => S10_1 n b1 b2 b3 b4 b5 (fun (q1 : Int) (q2 : Int) (q3 : Bool) (q4 : Int) => some (.tup [(.agg [(.int .i64 q1), (.int .i64 q2), (.bool q3)]), (.int .i64 q4)]))
  | _ => none

theorem p10 (n : Nat) : Pure Try.prog G0 10 (F10 n) := by
  refine pure_k bodyOK (spok10 n) (mkSp_S _) mix (callable_of (by kernel_rfl)) n 8 ?_
  intro ds x h
  unfold F10 at h
  split at h
  · rename_i b1 b2 b3 b4 b5
    rw [← h]
    exact (tF10 n 0 b1 b2 b3 b4 b5 fin).trans (by kernel_rfl)
  · cases h

def spl11 (n : Nat) : List (FuncId × Ev.Fn) := [(22, F22 n), (23, F23 n)]

def sp11 (n : Nat) : SpecT := mkSp isS (spl11 n)

theorem spok11 (n : Nat) : SpecOK Try.prog G0 (sp11 n) := mkSp_ok callS (all_cons (p22 n) (all_cons (p23 n) all_nil))

def ck11 {ρ : Type} (n d : Nat) : CallK ρ := kF body (sp11 n) n d

def S11_1 {ρ : Type} (n : Nat) (a1 : Int) (a2 : Int) (a3 : Bool) (a4 : Int) (a5 : Int) (k0 : Int → Int → Bool → Int → Option ρ) : Option ρ :=
  (F22 n [(.agg [(.int .i64 a1), (.int .i64 a2), (.bool a3)])]).bind fun x1 => gB x1 fun x2 => cond (!x2) (k0 (0 : Int) (0 : Int) false (1 : Int)) (cond (decide (a4 < (0 : Int))) (k0 (0 : Int) (0 : Int) false (1 : Int)) (cond (decide (a4 > (80 : Int))) (k0 (0 : Int) (0 : Int) false (1 : Int)) (cond (decide (a5 < (0 : Int))) (k0 (0 : Int) (0 : Int) false (1 : Int)) (cond (decide (a5 > (3 : Int))) (k0 (0 : Int) (0 : Int) false (1 : Int)) (cond a3 ((F23 n [(.int .i64 a4), (.int .i64 a5)]).bind fun x3 => gI .i64 x3 fun x4 => (F22 n [(.agg [(.int .i64 a1), (.int .i64 (IntKind.i64.wrap (a2 - x4))), (.bool a3)])]).bind fun x5 => gB x5 fun x6 => cond (!x6) (k0 (0 : Int) (0 : Int) false (3 : Int)) (k0 a1 (IntKind.i64.wrap (a2 - x4)) a3 (0 : Int))) ((F23 n [(.int .i64 a4), (.int .i64 a5)]).bind fun x7 => gI .i64 x7 fun x8 => (F22 n [(.agg [(.int .i64 a1), (.int .i64 (IntKind.i64.wrap (a2 + x8))), (.bool a3)])]).bind fun x9 => gB x9 fun x10 => cond (!x10) (k0 (0 : Int) (0 : Int) false (3 : Int)) (k0 a1 (IntKind.i64.wrap (a2 + x8)) a3 (0 : Int))))))))

theorem tS11_1 {ρ : Type} (n d : Nat) (a1 : Int) (a2 : Int) (a3 : Bool) (a4 : Int) (a5 : Int) (K : Out → List KB → Option ρ) :
    kC (ck11 n (d + 7)) (sp11 n) n c11_26 [(.d (.agg [(.int .i64 a1), (.int .i64 a2), (.bool a3)])), (.d (.int .i64 a4)), (.d (.int .i64 a5)), vU, vU, vU, vU, vU, vU, vU, vU, vU, vU, vU, vU, vU, vU, vU, vU, vU, vU, vU, vU, vU, vU, vU, vU, vU, vU, vU, vU, vU, vU, vU, vU, vU, vU, vU, vU, vU, vU, vU, vU, vU, vU, vU, vU, vU, vU] [] (endK [(.cell 6 true 3), (.tmp 7 none)] 0 K) =
    S11_1 n a1 a2 a3 a4 a5 (fun (q1 : Int) (q2 : Int) (q3 : Bool) (q4 : Int) => K (.ret (.d (.tup [(.agg [(.int .i64 q1), (.int .i64 q2), (.bool q3)]), (.int .i64 q4)]))) []) := by kernel_rfl

theorem tF11 {ρ : Type} (n d : Nat) (b1 : Int) (b2 : Int) (b3 : Bool) (b4 : Int) (b5 : Int) (K : Out → List KB → Option ρ) :
    ck11 n (d + 8) 11 [.d (.agg [(.int .i64 b1), (.int .i64 b2), (.bool b3)]), .d (.int .i64 b4), .d (.int .i64 b5)] [] K =
    S11_1 n b1 b2 b3 b4 b5 (fun (q1 : Int) (q2 : Int) (q3 : Bool) (q4 : Int) => K (.ret (.d (.tup [(.agg [(.int .i64 q1), (.int .i64 q2), (.bool q3)]), (.int .i64 q4)]))) []) :=
  (show _ = kC (ck11 n (d + 7)) (sp11 n) n c11_26 [(.d (.agg [(.int .i64 b1), (.int .i64 b2), (.bool b3)])), (.d (.int .i64 b4)), (.d (.int .i64 b5)), vU, vU, vU, vU, vU, vU, vU, vU, vU, vU, vU, vU, vU, vU, vU, vU, vU, vU, vU, vU, vU, vU, vU, vU, vU, vU, vU, vU, vU, vU, vU, vU, vU, vU, vU, vU, vU, vU, vU, vU, vU, vU, vU, vU, vU, vU] [] (endK [(.cell 6 true 3), (.tmp 7 none)] 0 K) from by kernel_rfl).trans (tS11_1 n d b1 b2 b3 b4 b5 K)

def F11 (n : Nat) : Ev.Fn
  | [(.agg [(.int .i64 b1), (.int .i64 b2), (.bool b3)]), (.int .i64 b4), (.int .i64 b5)] => S11_1 n b1 b2 b3 b4 b5 (fun (q1 : Int) (q2 : Int) (q3 : Bool) (q4 : Int) => some (.tup [(.agg [(.int .i64 q1), (.int .i64 q2), (.bool q3)]), (.int .i64 q4)]))
  | _ => none

theorem p11 (n : Nat) : Pure Try.prog G0 11 (F11 n) := by
  refine pure_k bodyOK (spok11 n) (mkSp_S _) mix (callable_of (by kernel_rfl)) n 8 ?_
  intro ds x h
  unfold F11 at h
  split at h
  · rename_i b1 b2 b3 b4 b5
    rw [← h]
    exact (tF11 n 0 b1 b2 b3 b4 b5 fin).trans (by kernel_rfl)
  · cases h

def spl12 (n : Nat) : List (FuncId × Ev.Fn) := [(18, F18 n)]

def sp12 (n : Nat) : SpecT := mkSp isS (spl12 n)

theorem spok12 (n : Nat) : SpecOK Try.prog G0 (sp12 n) := mkSp_ok callS (all_cons (p18 n) all_nil)

def ck12 {ρ : Type} (n d : Nat) : CallK ρ := kF body (sp12 n) n d

def S12_1 {ρ : Type} (n : Nat) (a1 : Int) (a2 : Int) (a3 : Bool) (a4 : Int) (a5 : Int) (k0 : Int → Int → Int → Option ρ) : Option ρ :=
  (F18 n [(.agg [(.int .i64 a1), (.int .i64 a2), (.bool a3)])]).bind fun x1 => gB x1 fun x2 => cond (!x2) (k0 (0 : Int) (0 : Int) (1 : Int)) ((F18 n [(.agg [(.int .i64 a4), (.int .i64 a5), (.bool false)])]).bind fun x3 => gB x3 fun x4 => cond (!x4) (k0 (0 : Int) (0 : Int) (1 : Int)) (cond (a1 == a4) (k0 (0 : Int) (0 : Int) (5 : Int)) (k0 a4 a5 (0 : Int))))

theorem tS12_1 {ρ : Type} (n d : Nat) (a1 : Int) (a2 : Int) (a3 : Bool) (a4 : Int) (a5 : Int) (K : Out → List KB → Option ρ) :
    kC (ck12 n (d + 7)) (sp12 n) n c12_21 [(.d (.agg [(.int .i64 a1), (.int .i64 a2), (.bool a3)])), (.d (.int .i64 a4)), (.d (.int .i64 a5)), vU, vU, vU, vU, vU, vU, vU, vU, vU, vU, vU, vU, vU, vU, vU, vU, vU, vU, vU, vU, vU, vU, vU, vU, vU, vU, vU, vU, vU] [] (endK [(.cell 6 true 3), (.tmp 7 none)] 0 K) =
    S12_1 n a1 a2 a3 a4 a5 (fun (q1 : Int) (q2 : Int) (q3 : Int) => K (.ret (.d (.tup [(.agg [(.int .i64 q1), (.int .i64 q2), (.bool false)]), (.int .i64 q3)]))) []) := by kernel_rfl

theorem tF12 {ρ : Type} (n d : Nat) (b1 : Int) (b2 : Int) (b3 : Bool) (b4 : Int) (b5 : Int) (K : Out → List KB → Option ρ) :
    ck12 n (d + 8) 12 [.d (.agg [(.int .i64 b1), (.int .i64 b2), (.bool b3)]), .d (.int .i64 b4), .d (.int .i64 b5)] [] K =
    S12_1 n b1 b2 b3 b4 b5 (fun (q1 : Int) (q2 : Int) (q3 : Int) => K (.ret (.d (.tup [(.agg [(.int .i64 q1), (.int .i64 q2), (.bool false)]), (.int .i64 q3)]))) []) :=
  (show _ = kC (ck12 n (d + 7)) (sp12 n) n c12_21 [(.d (.agg [(.int .i64 b1), (.int .i64 b2), (.bool b3)])), (.d (.int .i64 b4)), (.d (.int .i64 b5)), vU, vU, vU, vU, vU, vU, vU, vU, vU, vU, vU, vU, vU, vU, vU, vU, vU, vU, vU, vU, vU, vU, vU, vU, vU, vU, vU, vU, vU] [] (endK [(.cell 6 true 3), (.tmp 7 none)] 0 K) from by kernel_rfl).trans (tS12_1 n d b1 b2 b3 b4 b5 K)

def F12 (n : Nat) : Ev.Fn
  | [(.agg [(.int .i64 b1), (.int .i64 b2), (.bool b3)]), (.int .i64 b4), (.int .i64 b5)] => S12_1 n b1 b2 b3 b4 b5 (fun (q1 : Int) (q2 : Int) (q3 : Int) => some (.tup [(.agg [(.int .i64 q1), (.int .i64 q2), (.bool false)]), (.int .i64 q3)]))
  | _ => none

theorem p12 (n : Nat) : Pure Try.prog G0 12 (F12 n) := by
  refine pure_k bodyOK (spok12 n) (mkSp_S _) mix (callable_of (by kernel_rfl)) n 8 ?_
  intro ds x h
  unfold F12 at h
  split at h
  · rename_i b1 b2 b3 b4 b5
    rw [← h]
    exact (tF12 n 0 b1 b2 b3 b4 b5 fin).trans (by kernel_rfl)
  · cases h

def spl13 (n : Nat) : List (FuncId × Ev.Fn) := [(22, F22 n)]

def sp13 (n : Nat) : SpecT := mkSp isS (spl13 n)

theorem spok13 (n : Nat) : SpecOK Try.prog G0 (sp13 n) := mkSp_ok callS (all_cons (p22 n) all_nil)

def ck13 {ρ : Type} (n d : Nat) : CallK ρ := kF body (sp13 n) n d

def S13_1 {ρ : Type} (n : Nat) (a1 : Int) (a2 : Int) (a3 : Bool) (a4 : Int) (a5 : Int) (k0 : Int → Int → Int → Option ρ) : Option ρ :=
  (F22 n [(.agg [(.int .i64 a1), (.int .i64 a2), (.bool a3)])]).bind fun x1 => gB x1 fun x2 => cond (!x2) (k0 (0 : Int) (0 : Int) (1 : Int)) ((F22 n [(.agg [(.int .i64 a4), (.int .i64 a5), (.bool false)])]).bind fun x3 => gB x3 fun x4 => cond (!x4) (k0 (0 : Int) (0 : Int) (1 : Int)) (cond (a4 == a1) (k0 (0 : Int) (0 : Int) (5 : Int)) (k0 a4 a5 (0 : Int))))

theorem tS13_1 {ρ : Type} (n d : Nat) (a1 : Int) (a2 : Int) (a3 : Bool) (a4 : Int) (a5 : Int) (K : Out → List KB → Option ρ) :
    kC (ck13 n (d + 7)) (sp13 n) n c13_22 [(.d (.agg [(.int .i64 a1), (.int .i64 a2), (.bool a3)])), (.d (.int .i64 a4)), (.d (.int .i64 a5)), vU, vU, vU, vU, vU, vU, vU, vU, vU, vU, vU, vU, vU, vU, vU, vU, vU, vU, vU, vU, vU, vU, vU, vU] [] (endK [(.cell 6 true 3), (.tmp 7 none)] 0 K) =
    S13_1 n a1 a2 a3 a4 a5 (fun (q1 : Int) (q2 : Int) (q3 : Int) => K (.ret (.d (.tup [(.agg [(.int .i64 q1), (.int .i64 q2), (.bool false)]), (.int .i64 q3)]))) []) := by kernel_rfl

theorem tF13 {ρ : Type} (n d : Nat) (b1 : Int) (b2 : Int) (b3 : Bool) (b4 : Int) (b5 : Int) (K : Out → List KB → Option ρ) :
    ck13 n (d + 8) 13 [.d (.agg [(.int .i64 b1), (.int .i64 b2), (.bool b3)]), .d (.int .i64 b4), .d (.int .i64 b5)] [] K =
    S13_1 n b1 b2 b3 b4 b5 (fun (q1 : Int) (q2 : Int) (q3 : Int) => K (.ret (.d (.tup [(.agg [(.int .i64 q1), (.int .i64 q2), (.bool false)]), (.int .i64 q3)]))) []) :=
  (show _ = kC (ck13 n (d + 7)) (sp13 n) n c13_22 [(.d (.agg [(.int .i64 b1), (.int .i64 b2), (.bool b3)])), (.d (.int .i64 b4)), (.d (.int .i64 b5)), vU, vU, vU, vU, vU, vU, vU, vU, vU, vU, vU, vU, vU, vU, vU, vU, vU, vU, vU, vU, vU, vU, vU, vU] [] (endK [(.cell 6 true 3), (.tmp 7 none)] 0 K) from by kernel_rfl).trans (tS13_1 n d b1 b2 b3 b4 b5 K)

def F13 (n : Nat) : Ev.Fn
  | [(.agg [(.int .i64 b1), (.int .i64 b2), (.bool b3)]), (.int .i64 b4), (.int .i64 b5)] => S13_1 n b1 b2 b3 b4 b5 (fun (q1 : Int) (q2 : Int) (q3 : Int) => some (.tup [(.agg [(.int .i64 q1), (.int .i64 q2), (.bool false)]), (.int .i64 q3)]))
  | _ => none

theorem p13 (n : Nat) : Pure Try.prog G0 13 (F13 n) := by
  refine pure_k bodyOK (spok13 n) (mkSp_S _) mix (callable_of (by kernel_rfl)) n 8 ?_
  intro ds x h
  unfold F13 at h
  split at h
  · rename_i b1 b2 b3 b4 b5
    rw [← h]
    exact (tF13 n 0 b1 b2 b3 b4 b5 fin).trans (by kernel_rfl)
  · cases h

def spl14 (n : Nat) : List (FuncId × Ev.Fn) := [(18, F18 n)]

def sp14 (n : Nat) : SpecT := mkSp isS (spl14 n)

theorem spok14 (n : Nat) : SpecOK Try.prog G0 (sp14 n) := mkSp_ok callS (all_cons (p18 n) all_nil)

def ck14 {ρ : Type} (n d : Nat) : CallK ρ := kF body (sp14 n) n d

def S14_1 {ρ : Type} (n : Nat) (a1 : Int) (a2 : Int) (a3 : Bool) (a4 : Int) (a5 : Int) (a6 : Bool) (k0 : Int → Int → Option ρ) : Option ρ :=
  (F18 n [(.agg [(.int .i64 a1), (.int .i64 a2), (.bool a3)])]).bind fun x1 => gB x1 fun x2 => cond (!x2) (k0 (0 : Int) (1 : Int)) ((F18 n [(.agg [(.int .i64 a4), (.int .i64 a5), (.bool a6)])]).bind fun x3 => gB x3 fun x4 => cond (!x4) (k0 (0 : Int) (1 : Int)) (cond (a1 != a4) (k0 (0 : Int) (4 : Int)) (cond (decide (a5 < a2)) (k0 (0 : Int) (11 : Int)) (k0 (IntKind.i64.wrap (Int.tdiv (IntKind.i64.wrap (a5 - a2)) (3600 : Int))) (0 : Int)))))

theorem tS14_1 {ρ : Type} (n d : Nat) (a1 : Int) (a2 : Int) (a3 : Bool) (a4 : Int) (a5 : Int) (a6 : Bool) (K : Out → List KB → Option ρ) :
    kC (ck14 n (d + 7)) (sp14 n) n c14_25 [(.d (.agg [(.int .i64 a1), (.int .i64 a2), (.bool a3)])), (.d (.agg [(.int .i64 a4), (.int .i64 a5), (.bool a6)])), vU, vU, vU, vU, vU, vU, vU, vU, vU, vU, vU, vU, vU, vU, vU, vU, vU, vU, vU, vU, vU, vU, vU, vU, vU, vU, vU, vU, vU, vU, vU, vU, vU] [] (endK [(.tmp 4 none), (.tmp 5 none)] 0 K) =
    S14_1 n a1 a2 a3 a4 a5 a6 (fun (q1 : Int) (q2 : Int) => K (.ret (.d (.tup [(.int .i64 q1), (.int .i64 q2)]))) []) := by kernel_rfl

theorem tF14 {ρ : Type} (n d : Nat) (b1 : Int) (b2 : Int) (b3 : Bool) (b4 : Int) (b5 : Int) (b6 : Bool) (K : Out → List KB → Option ρ) :
    ck14 n (d + 8) 14 [.d (.agg [(.int .i64 b1), (.int .i64 b2), (.bool b3)]), .d (.agg [(.int .i64 b4), (.int .i64 b5), (.bool b6)])] [] K =
    S14_1 n b1 b2 b3 b4 b5 b6 (fun (q1 : Int) (q2 : Int) => K (.ret (.d (.tup [(.int .i64 q1), (.int .i64 q2)]))) []) :=
  (show _ = kC (ck14 n (d + 7)) (sp14 n) n c14_25 [(.d (.agg [(.int .i64 b1), (.int .i64 b2), (.bool b3)])), (.d (.agg [(.int .i64 b4), (.int .i64 b5), (.bool b6)])), vU, vU, vU, vU, vU, vU, vU, vU, vU, vU, vU, vU, vU, vU, vU, vU, vU, vU, vU, vU, vU, vU, vU, vU, vU, vU, vU, vU, vU, vU, vU, vU, vU] [] (endK [(.tmp 4 none), (.tmp 5 none)] 0 K) from by kernel_rfl).trans (tS14_1 n d b1 b2 b3 b4 b5 b6 K)

def F14 (n : Nat) : Ev.Fn
  | [(.agg [(.int .i64 b1), (.int .i64 b2), (.bool b3)]), (.agg [(.int .i64 b4), (.int .i64 b5), (.bool b6)])] => S14_1 n b1 b2 b3 b4 b5 b6 (fun (q1 : Int) (q2 : Int) => some (.tup [(.int .i64 q1), (.int .i64 q2)]))
  | _ => none

theorem p14 (n : Nat) : Pure Try.prog G0 14 (F14 n) := by
  refine pure_k bodyOK (spok14 n) (mkSp_S _) mix (callable_of (by kernel_rfl)) n 8 ?_
  intro ds x h
  unfold F14 at h
  split at h
  · rename_i b1 b2 b3 b4 b5 b6
    rw [← h]
    exact (tF14 n 0 b1 b2 b3 b4 b5 b6 fin).trans (by kernel_rfl)
  · cases h

def spl15 (n : Nat) : List (FuncId × Ev.Fn) := [(22, F22 n)]

def sp15 (n : Nat) : SpecT := mkSp isS (spl15 n)

theorem spok15 (n : Nat) : SpecOK Try.prog G0 (sp15 n) := mkSp_ok callS (all_cons (p22 n) all_nil)

def ck15 {ρ : Type} (n d : Nat) : CallK ρ := kF body (sp15 n) n d

def S15_1 {ρ : Type} (n : Nat) (a1 : Int) (a2 : Int) (a3 : Bool) (a4 : Int) (a5 : Int) (a6 : Bool) (k0 : Int → Int → Option ρ) : Option ρ :=
  (F22 n [(.agg [(.int .i64 a1), (.int .i64 a2), (.bool a3)])]).bind fun x1 => gB x1 fun x2 => cond (!x2) (k0 (0 : Int) (1 : Int)) ((F22 n [(.agg [(.int .i64 a4), (.int .i64 a5), (.bool a6)])]).bind fun x3 => gB x3 fun x4 => cond (!x4) (k0 (0 : Int) (1 : Int)) (cond (a1 != a4) (k0 (0 : Int) (4 : Int)) (cond (decide (a5 < a2)) (k0 (0 : Int) (11 : Int)) (k0 (IntKind.i64.wrap (Int.tdiv (IntKind.i64.wrap (a5 - a2)) (3600 : Int))) (0 : Int)))))

theorem tS15_1 {ρ : Type} (n d : Nat) (a1 : Int) (a2 : Int) (a3 : Bool) (a4 : Int) (a5 : Int) (a6 : Bool) (K : Out → List KB → Option ρ) :
    kC (ck15 n (d + 7)) (sp15 n) n c15_28 [(.d (.agg [(.int .i64 a1), (.int .i64 a2), (.bool a3)])), (.d (.agg [(.int .i64 a4), (.int .i64 a5), (.bool a6)])), vU, vU, vU, vU, vU, vU, vU, vU, vU, vU, vU, vU, vU, vU, vU, vU, vU, vU, vU, vU, vU, vU, vU, vU, vU, vU, vU, vU] [] (endK [(.tmp 4 none), (.tmp 5 none)] 0 K) =
    S15_1 n a1 a2 a3 a4 a5 a6 (fun (q1 : Int) (q2 : Int) => K (.ret (.d (.tup [(.int .i64 q1), (.int .i64 q2)]))) []) := by kernel_rfl

theorem tF15 {ρ : Type} (n d : Nat) (b1 : Int) (b2 : Int) (b3 : Bool) (b4 : Int) (b5 : Int) (b6 : Bool) (K : Out → List KB → Option ρ) :
    ck15 n (d + 8) 15 [.d (.agg [(.int .i64 b1), (.int .i64 b2), (.bool b3)]), .d (.agg [(.int .i64 b4), (.int .i64 b5), (.bool b6)])] [] K =
    S15_1 n b1 b2 b3 b4 b5 b6 (fun (q1 : Int) (q2 : Int) => K (.ret (.d (.tup [(.int .i64 q1), (.int .i64 q2)]))) []) :=
  (show _ = kC (ck15 n (d + 7)) (sp15 n) n c15_28 [(.d (.agg [(.int .i64 b1), (.int .i64 b2), (.bool b3)])), (.d (.agg [(.int .i64 b4), (.int .i64 b5), (.bool b6)])), vU, vU, vU, vU, vU, vU, vU, vU, vU, vU, vU, vU, vU, vU, vU, vU, vU, vU, vU, vU, vU, vU, vU, vU, vU, vU, vU, vU] [] (endK [(.tmp 4 none), (.tmp 5 none)] 0 K) from by kernel_rfl).trans (tS15_1 n d b1 b2 b3 b4 b5 b6 K)

def F15 (n : Nat) : Ev.Fn
  | [(.agg [(.int .i64 b1), (.int .i64 b2), (.bool b3)]), (.agg [(.int .i64 b4), (.int .i64 b5), (.bool b6)])] => S15_1 n b1 b2 b3 b4 b5 b6 (fun (q1 : Int) (q2 : Int) => some (.tup [(.int .i64 q1), (.int .i64 q2)]))
  | _ => none

theorem p15 (n : Nat) : Pure Try.prog G0 15 (F15 n) := by
  refine pure_k bodyOK (spok15 n) (mkSp_S _) mix (callable_of (by kernel_rfl)) n 8 ?_
  intro ds x h
  unfold F15 at h
  split at h
  · rename_i b1 b2 b3 b4 b5 b6
    rw [← h]
    exact (tF15 n 0 b1 b2 b3 b4 b5 b6 fin).trans (by kernel_rfl)
  · cases h

def spl17 (n : Nat) : List (FuncId × Ev.Fn) := [(10, F10 n)]

def sp17 (n : Nat) : SpecT := mkSp isS (spl17 n)

theorem spok17 (n : Nat) : SpecOK Try.prog G0 (sp17 n) := mkSp_ok callS (all_cons (p10 n) all_nil)

def ck17 {ρ : Type} (n d : Nat) : CallK ρ := kF body (sp17 n) n d

def S17_2 {ρ : Type} (n : Nat) (a1 : Int) (a2 : Nat) (a3 : List D) (a4 : Bool) (a5 : Int) (a6 : Int) (a7 : Int) (a8 : Int) (a9 : Bool) (k0 : Option ρ) (k1 : Int → Int → Int → Int → Bool → Option ρ) (k2 : Option ρ) : Option ρ :=
  cond (decide (a6 < a5)) (ass (decide ((0 : Int) ≤ a6) && decide (a6 < (a2 : Int))) (gC (List.drop (Int.toNat a6 * 2) a3) fun x1 x2 => gI .u8 x1 fun x3 => gC x2 fun x4 x5 => gI .u8 x4 fun x6 => (F10 n [(.agg [(.int .i64 a7), (.int .i64 a8), (.bool a9)]), (.int .i64 (Int.tmod (IntKind.i64.wrap x3) (81 : Int))), (.int .i64 (Int.tmod (IntKind.i64.wrap x6) (4 : Int)))]).bind fun x7 => gT x7 fun x8 => gC x8 fun x9 x10 => gA x9 fun x11 => gC x11 fun x12 x13 => gI .i64 x12 fun x14 => gC x13 fun x15 x16 => gI .i64 x15 fun x17 => gC x16 fun x18 x19 => gB x18 fun x20 => gE x19 (gC x10 fun x21 x22 => gI .i64 x21 fun x23 => gE x22 (cond (x23 != (0 : Int)) (k0) (k1 (IntKind.i64.wrap (a1 + (IntKind.i64.wrap ((Int.tmod (IntKind.i64.wrap x3) (81 : Int)) * (Int.tmod (IntKind.i64.wrap x6) (4 : Int)))))) (IntKind.i64.wrap (a6 + (1 : Int))) x14 x17 x20))))) (k2)

theorem tS17_2 {ρ : Type} (n d : Nat) (a1 : Int) (a2 : Nat) (a3 : List D) (a4 : Bool) (a5 : Int) (a6 : Int) (a7 : Int) (a8 : Int) (a9 : Bool) (K : Ex → List V → List KB → Option ρ) :
    kC (ck17 n (d + 7)) (sp17 n) n c17_26 [vN, vN, (.ptr 0 0), vN, (.ptr 1 0), vN, vN, (.d (.int .i64 a1)), vN, vN, vN, vN, vN, vN, (.d (.lst 2 a2 a3 a4)), (.d (.int .i64 a5)), (.d (.int .i64 a6)), vN, vN, vN, vN, vN, vN, vN, vN, vN, vN, vN, vN, vN, vN, vN, vN, vN, vN, vN, vN, vN, vN, vN, vN, vN, vN, vN, vN, vN, vN, vN] [(.cells [(.d (.int .i64 a7)), (.d (.int .i64 a8)), (.d (.bool a9))]), (.cells [(.d (.int .i64 (0))), (.d (.int .i64 (0))), (.d (.bool false))])] (tidyK ti17_27 [] 2 K) =
    S17_2 n a1 a2 a3 a4 a5 a6 a7 a8 a9 (K .ret [vN, vN, vN, vN, (.ptr 1 0), (.d (.int .i64 a1)), (.d (.bool false)), vN, vN, vN, vN, vN, vN, vN, vN, vN, vN, vN, vN, vN, vN, vN, vN, vN, vN, vN, vN, vN, vN, vN, vN, vN, vN, vN, vN, vN, vN, vN, vN, vN, vN, vN, vN, vN, vN, vN, vN, vN] [(.cells [(.d (.int .i64 a7)), (.d (.int .i64 a8)), (.d (.bool a9))]), (.cells [(.d (.int .i64 a7)), (.d (.int .i64 a8)), (.d (.bool a9))])]) (fun (q1 : Int) (q2 : Int) (q3 : Int) (q4 : Int) (q5 : Bool) => K .nor [vN, vN, (.ptr 0 0), vN, (.ptr 1 0), vN, vN, (.d (.int .i64 q1)), vN, vN, vN, vN, vN, vN, (.d (.lst 2 a2 a3 a4)), (.d (.int .i64 a5)), (.d (.int .i64 q2)), vN, vN, vN, vN, vN, vN, vN, vN, vN, vN, vN, vN, vN, vN, vN, vN, vN, vN, vN, vN, vN, vN, vN, vN, vN, vN, vN, vN, vN, vN, vN] [(.cells [(.d (.int .i64 q3)), (.d (.int .i64 q4)), (.d (.bool q5))]), (.cells [(.d (.int .i64 (0))), (.d (.int .i64 (0))), (.d (.bool false))])]) (K (.exit 0) [vN, vN, (.ptr 0 0), vN, (.ptr 1 0), vN, vN, (.d (.int .i64 a1)), vN, vN, vN, vN, vN, vN, (.d (.lst 2 a2 a3 a4)), (.d (.int .i64 a5)), (.d (.int .i64 a6)), vN, vN, vN, vN, vN, vN, vN, vN, vN, vN, vN, vN, vN, vN, vN, vN, vN, vN, vN, vN, vN, vN, vN, vN, vN, vN, vN, vN, vN, vN, vN] [(.cells [(.d (.int .i64 a7)), (.d (.int .i64 a8)), (.d (.bool a9))]), (.cells [(.d (.int .i64 (0))), (.d (.int .i64 (0))), (.d (.bool false))])]) := by kernel_rfl

def L17_3 {ρ : Type} (n : Nat) : Nat → Int → Nat → (List D) → Bool → Int → Int → Int → Int → Bool → (Int → Int → Int → Bool → Option ρ) → (Int → Int → Int → Int → Bool → Option ρ) → Option ρ
  | 0, _, _, _, _, _, _, _, _, _, _, _ => none
  | m + 1, a1, a2, a3, a4, a5, a6, a7, a8, a9, k0, k1 => S17_2 n a1 a2 a3 a4 a5 a6 a7 a8 a9 (k0 a1 a7 a8 a9) (fun x1 x2 x3 x4 x5 => L17_3 n m x1 a2 a3 a4 a5 x2 x3 x4 x5 k0 k1) (k1 a1 a6 a7 a8 a9)

theorem tL17_3 {ρ : Type} (n d : Nat) (K : Ex → List V → List KB → Option ρ) : ∀ (m : Nat) (a1 : Int) (a2 : Nat) (a3 : List D) (a4 : Bool) (a5 : Int) (a6 : Int) (a7 : Int) (a8 : Int) (a9 : Bool),
    kLoop (kC (ck17 n (d + 7)) (sp17 n) n c17_26) ti17_27 [] m [vN, vN, (.ptr 0 0), vN, (.ptr 1 0), vN, vN, (.d (.int .i64 a1)), vN, vN, vN, vN, vN, vN, (.d (.lst 2 a2 a3 a4)), (.d (.int .i64 a5)), (.d (.int .i64 a6)), vN, vN, vN, vN, vN, vN, vN, vN, vN, vN, vN, vN, vN, vN, vN, vN, vN, vN, vN, vN, vN, vN, vN, vN, vN, vN, vN, vN, vN, vN, vN] [(.cells [(.d (.int .i64 a7)), (.d (.int .i64 a8)), (.d (.bool a9))]), (.cells [(.d (.int .i64 (0))), (.d (.int .i64 (0))), (.d (.bool false))])] K =
    L17_3 n m a1 a2 a3 a4 a5 a6 a7 a8 a9 (fun (q1 : Int) (q2 : Int) (q3 : Int) (q4 : Bool) => K .ret [vN, vN, vN, vN, (.ptr 1 0), (.d (.int .i64 q1)), (.d (.bool false)), vN, vN, vN, vN, vN, vN, vN, vN, vN, vN, vN, vN, vN, vN, vN, vN, vN, vN, vN, vN, vN, vN, vN, vN, vN, vN, vN, vN, vN, vN, vN, vN, vN, vN, vN, vN, vN, vN, vN, vN, vN] [(.cells [(.d (.int .i64 q2)), (.d (.int .i64 q3)), (.d (.bool q4))]), (.cells [(.d (.int .i64 q2)), (.d (.int .i64 q3)), (.d (.bool q4))])]) (fun (q1 : Int) (q2 : Int) (q3 : Int) (q4 : Int) (q5 : Bool) => K (.exit 0) [vN, vN, (.ptr 0 0), vN, (.ptr 1 0), vN, vN, (.d (.int .i64 q1)), vN, vN, vN, vN, vN, vN, (.d (.lst 2 a2 a3 a4)), (.d (.int .i64 a5)), (.d (.int .i64 q2)), vN, vN, vN, vN, vN, vN, vN, vN, vN, vN, vN, vN, vN, vN, vN, vN, vN, vN, vN, vN, vN, vN, vN, vN, vN, vN, vN, vN, vN, vN, vN] [(.cells [(.d (.int .i64 q3)), (.d (.int .i64 q4)), (.d (.bool q5))]), (.cells [(.d (.int .i64 (0))), (.d (.int .i64 (0))), (.d (.bool false))])]) := by
  intro m
  induction m with
  | zero => intros; kernel_rfl
  | succ m ih =>
    intro a1 a2 a3 a4 a5 a6 a7 a8 a9
    exact (show _ = kC (ck17 n (d + 7)) (sp17 n) n c17_26 [vN, vN, (.ptr 0 0), vN, (.ptr 1 0), vN, vN, (.d (.int .i64 a1)), vN, vN, vN, vN, vN, vN, (.d (.lst 2 a2 a3 a4)), (.d (.int .i64 a5)), (.d (.int .i64 a6)), vN, vN, vN, vN, vN, vN, vN, vN, vN, vN, vN, vN, vN, vN, vN, vN, vN, vN, vN, vN, vN, vN, vN, vN, vN, vN, vN, vN, vN, vN, vN] [(.cells [(.d (.int .i64 a7)), (.d (.int .i64 a8)), (.d (.bool a9))]), (.cells [(.d (.int .i64 (0))), (.d (.int .i64 (0))), (.d (.bool false))])] (tidyK ti17_27 [] 2  (seqK (kLoop (kC (ck17 n (d + 7)) (sp17 n) n c17_26) ti17_27 [] m) K)) from by kernel_rfl).trans ((tS17_2 n d a1 a2 a3 a4 a5 a6 a7 a8 a9 _).trans (by simp only [seqK_nor, ih, seqK_exit, seqK_ret]; kernel_rfl))

def S17_4 {ρ : Type} (n : Nat) (a1 : Int) (a2 : Int) (a3 : Int) (a4 : Bool) (k0 : Option ρ) : Option ρ :=
  k0

theorem tS17_4 {ρ : Type} (n d : Nat) (a1 : Int) (a2 : Int) (a3 : Int) (a4 : Bool) (K : Out → List KB → Option ρ) :
    (blockK 0 (seqK (kC (ck17 n (d + 7)) (sp17 n) n c17_32) (endK [(.cell 4 true 3), (.tmp 5 none), (.tmp 6 none)] 0 K))) .ret [vN, vN, vN, vN, (.ptr 1 0), (.d (.int .i64 a1)), (.d (.bool false)), vN, vN, vN, vN, vN, vN, vN, vN, vN, vN, vN, vN, vN, vN, vN, vN, vN, vN, vN, vN, vN, vN, vN, vN, vN, vN, vN, vN, vN, vN, vN, vN, vN, vN, vN, vN, vN, vN, vN, vN, vN] [(.cells [(.d (.int .i64 a2)), (.d (.int .i64 a3)), (.d (.bool a4))]), (.cells [(.d (.int .i64 a2)), (.d (.int .i64 a3)), (.d (.bool a4))])] =
    S17_4 n a1 a2 a3 a4 (K (.ret (.d (.tup [(.agg [(.int .i64 a2), (.int .i64 a3), (.bool a4)]), (.int .i64 a1), (.bool false)]))) []) := by kernel_rfl

def S17_5 {ρ : Type} (n : Nat) (a1 : Int) (a2 : Nat) (a3 : List D) (a4 : Bool) (a5 : Int) (a6 : Int) (a7 : Int) (a8 : Int) (a9 : Bool) (k0 : Option ρ) : Option ρ :=
  k0

theorem tS17_5 {ρ : Type} (n d : Nat) (a1 : Int) (a2 : Nat) (a3 : List D) (a4 : Bool) (a5 : Int) (a6 : Int) (a7 : Int) (a8 : Int) (a9 : Bool) (K : Out → List KB → Option ρ) :
    (blockK 0 (seqK (kC (ck17 n (d + 7)) (sp17 n) n c17_32) (endK [(.cell 4 true 3), (.tmp 5 none), (.tmp 6 none)] 0 K))) (.exit 0) [vN, vN, (.ptr 0 0), vN, (.ptr 1 0), vN, vN, (.d (.int .i64 a1)), vN, vN, vN, vN, vN, vN, (.d (.lst 2 a2 a3 a4)), (.d (.int .i64 a5)), (.d (.int .i64 a6)), vN, vN, vN, vN, vN, vN, vN, vN, vN, vN, vN, vN, vN, vN, vN, vN, vN, vN, vN, vN, vN, vN, vN, vN, vN, vN, vN, vN, vN, vN, vN] [(.cells [(.d (.int .i64 a7)), (.d (.int .i64 a8)), (.d (.bool a9))]), (.cells [(.d (.int .i64 (0))), (.d (.int .i64 (0))), (.d (.bool false))])] =
    S17_5 n a1 a2 a3 a4 a5 a6 a7 a8 a9 (K (.ret (.d (.tup [(.agg [(.int .i64 a7), (.int .i64 a8), (.bool a9)]), (.int .i64 a1), (.bool true)]))) []) := by kernel_rfl

def S17_1 {ρ : Type} (n : Nat) (a1 : Int) (a2 : Int) (a3 : Bool) (a4 : Nat) (a5 : List D) (a6 : Bool) (k0 : Int → Int → Bool → Int → Bool → Option ρ) : Option ρ :=
  L17_3 n n (0 : Int) a4 a5 a6 (a4 : Int) (0 : Int) a1 a2 a3 (fun x1 x2 x3 x4 => S17_4 n x1 x2 x3 x4 (k0 x2 x3 x4 x1 false)) (fun x5 x6 x7 x8 x9 => S17_5 n x5 a4 a5 a6 (a4 : Int) x6 x7 x8 x9 (k0 x7 x8 x9 x5 true))

theorem hS17_1 {ρ : Type} (n d : Nat) (a1 : Int) (a2 : Int) (a3 : Bool) (a4 : Nat) (a5 : List D) (a6 : Bool) (K : Out → List KB → Option ρ) :
    kC (ck17 n (d + 7)) (sp17 n) n c17_35 [(.d (.agg [(.int .i64 a1), (.int .i64 a2), (.bool a3)])), (.d (.lst 2 a4 a5 a6)), vU, vU, vU, vU, vU, vU, vU, vU, vU, vU, vU, vU, vU, vU, vU, vU, vU, vU, vU, vU, vU, vU, vU, vU, vU, vU, vU, vU, vU, vU, vU, vU, vU, vU, vU, vU, vU, vU, vU, vU, vU, vU, vU, vU, vU, vU] [] (endK [(.cell 4 true 3), (.tmp 5 none), (.tmp 6 none)] 0 K) =
    kLoop (kC (ck17 n (d + 7)) (sp17 n) n c17_26) ti17_27 [] n [vN, vN, (.ptr 0 0), vN, (.ptr 1 0), vN, vN, (.d (.int .i64 (0))), vN, vN, vN, vN, vN, vN, (.d (.lst 2 a4 a5 a6)), (.d (.int .i64 (a4 : Int))), (.d (.int .i64 (0))), vN, vN, vN, vN, vN, vN, vN, vN, vN, vN, vN, vN, vN, vN, vN, vN, vN, vN, vN, vN, vN, vN, vN, vN, vN, vN, vN, vN, vN, vN, vN] [(.cells [(.d (.int .i64 a1)), (.d (.int .i64 a2)), (.d (.bool a3))]), (.cells [(.d (.int .i64 (0))), (.d (.int .i64 (0))), (.d (.bool false))])] (blockK 0 (seqK (kC (ck17 n (d + 7)) (sp17 n) n c17_32) (endK [(.cell 4 true 3), (.tmp 5 none), (.tmp 6 none)] 0 K))) := by kernel_rfl

theorem tS17_1 {ρ : Type} (n d : Nat) (a1 : Int) (a2 : Int) (a3 : Bool) (a4 : Nat) (a5 : List D) (a6 : Bool) (K : Out → List KB → Option ρ) :
    kC (ck17 n (d + 7)) (sp17 n) n c17_35 [(.d (.agg [(.int .i64 a1), (.int .i64 a2), (.bool a3)])), (.d (.lst 2 a4 a5 a6)), vU, vU, vU, vU, vU, vU, vU, vU, vU, vU, vU, vU, vU, vU, vU, vU, vU, vU, vU, vU, vU, vU, vU, vU, vU, vU, vU, vU, vU, vU, vU, vU, vU, vU, vU, vU, vU, vU, vU, vU, vU, vU, vU, vU, vU, vU] [] (endK [(.cell 4 true 3), (.tmp 5 none), (.tmp 6 none)] 0 K) =
    S17_1 n a1 a2 a3 a4 a5 a6 (fun (q1 : Int) (q2 : Int) (q3 : Bool) (q4 : Int) (q5 : Bool) => K (.ret (.d (.tup [(.agg [(.int .i64 q1), (.int .i64 q2), (.bool q3)]), (.int .i64 q4), (.bool q5)]))) []) :=
  (hS17_1 n d a1 a2 a3 a4 a5 a6 K).trans (by simp only [tL17_3, tS17_4, tS17_5]; kernel_rfl)

theorem tF17 {ρ : Type} (n d : Nat) (b1 : Int) (b2 : Int) (b3 : Bool) (b4 : Nat) (b5 : List D) (b6 : Bool) (K : Out → List KB → Option ρ) :
    ck17 n (d + 8) 17 [.d (.agg [(.int .i64 b1), (.int .i64 b2), (.bool b3)]), .d (.lst 2 b4 b5 b6)] [] K =
    S17_1 n b1 b2 b3 b4 b5 b6 (fun (q1 : Int) (q2 : Int) (q3 : Bool) (q4 : Int) (q5 : Bool) => K (.ret (.d (.tup [(.agg [(.int .i64 q1), (.int .i64 q2), (.bool q3)]), (.int .i64 q4), (.bool q5)]))) []) :=
  (show _ = kC (ck17 n (d + 7)) (sp17 n) n c17_35 [(.d (.agg [(.int .i64 b1), (.int .i64 b2), (.bool b3)])), (.d (.lst 2 b4 b5 b6)), vU, vU, vU, vU, vU, vU, vU, vU, vU, vU, vU, vU, vU, vU, vU, vU, vU, vU, vU, vU, vU, vU, vU, vU, vU, vU, vU, vU, vU, vU, vU, vU, vU, vU, vU, vU, vU, vU, vU, vU, vU, vU, vU, vU, vU, vU] [] (endK [(.cell 4 true 3), (.tmp 5 none), (.tmp 6 none)] 0 K) from by kernel_rfl).trans (tS17_1 n d b1 b2 b3 b4 b5 b6 K)

def F17 (n : Nat) : Ev.Fn
  | [(.agg [(.int .i64 b1), (.int .i64 b2), (.bool b3)]), (.lst 2 b4 b5 b6)] => S17_1 n b1 b2 b3 b4 b5 b6 (fun (q1 : Int) (q2 : Int) (q3 : Bool) (q4 : Int) (q5 : Bool) => some (.tup [(.agg [(.int .i64 q1), (.int .i64 q2), (.bool q3)]), (.int .i64 q4), (.bool q5)]))
  | _ => none

theorem p17 (n : Nat) : Pure Try.prog G0 17 (F17 n) := by
  refine pure_k bodyOK (spok17 n) (mkSp_S _) mix (callable_of (by kernel_rfl)) n 8 ?_
  intro ds x h
  unfold F17 at h
  split at h
  · rename_i b1 b2 b3 b4 b5 b6
    rw [← h]
    exact (tF17 n 0 b1 b2 b3 b4 b5 b6 fin).trans (by kernel_rfl)
  · cases h

def spl9 (n : Nat) : List (FuncId × Ev.Fn) := [(10, F10 n), (12, F12 n), (14, F14 n)]

def sp9 (n : Nat) : SpecT := mkSp isS (spl9 n)

theorem spok9 (n : Nat) : SpecOK Try.prog G0 (sp9 n) := mkSp_ok callS (all_cons (p10 n) (all_cons (p12 n) (all_cons (p14 n) all_nil)))

def ck9 {ρ : Type} (n d : Nat) : CallK ρ := kF body (sp9 n) n d

def S9_1 {ρ : Type} (n : Nat) (k0 : Bool → Option ρ) : Option ρ :=
  (F10 n [(.agg [(.int .i64 (0)), (.int .i64 (100)), (.bool false)]), (.int .i64 (16)), (.int .i64 (3))]).bind fun x1 => gT x1 fun x2 => gC x2 fun x3 x4 => gA x3 fun x5 => gC x5 fun x6 x7 => gI .i64 x6 fun x8 => gC x7 fun x9 x10 => gI .i64 x9 fun x11 => gC x10 fun x12 x13 => gB x12 fun x14 => gE x13 (gC x4 fun x15 x16 => gI .i64 x15 fun x17 => gE x16 ((F10 n [(.agg [(.int .i64 (0)), (.int .i64 (100)), (.bool true)]), (.int .i64 (16)), (.int .i64 (3))]).bind fun x18 => gT x18 fun x19 => gC x19 fun x20 x21 => gA x20 fun x22 => gC x22 fun x23 x24 => gI .i64 x23 fun x25 => gC x24 fun x26 x27 => gI .i64 x26 fun x28 => gC x27 fun x29 x30 => gB x29 fun x31 => gE x30 (gC x21 fun x32 x33 => gI .i64 x32 fun x34 => gE x33 ((F14 n [(.agg [(.int .i64 (0)), (.int .i64 (0)), (.bool false)]), (.agg [(.int .i64 (0)), (.int .i64 (7199)), (.bool false)])]).bind fun x35 => gT x35 fun x36 => gC x36 fun x37 x38 => gI .i64 x37 fun x39 => gC x38 fun x40 x41 => gI .i64 x40 fun x42 => gE x41 ((F14 n [(.agg [(.int .i64 (0)), (.int .i64 (0)), (.bool false)]), (.agg [(.int .i64 (0)), (.int .i64 (7200)), (.bool false)])]).bind fun x43 => gT x43 fun x44 => gC x44 fun x45 x46 => gI .i64 x45 fun x47 => gC x46 fun x48 x49 => gI .i64 x48 fun x50 => gE x49 ((F14 n [(.agg [(.int .i64 (0)), (.int .i64 (5)), (.bool false)]), (.agg [(.int .i64 (0)), (.int .i64 (4)), (.bool false)])]).bind fun x51 => gT x51 fun x52 => gC x52 fun x53 x54 => gI .i64 x53 fun x55 => gC x54 fun x56 x57 => gI .i64 x56 fun x58 => gE x57 ((F14 n [(.agg [(.int .i64 (0)), (.int .i64 (0)), (.bool false)]), (.agg [(.int .i64 (1)), (.int .i64 (0)), (.bool false)])]).bind fun x59 => gT x59 fun x60 => gC x60 fun x61 x62 => gI .i64 x61 fun x63 => gC x62 fun x64 x65 => gI .i64 x64 fun x66 => gE x65 ((F12 n [(.agg [(.int .i64 x25), (.int .i64 x28), (.bool x31)]), (.int .i64 (7)), (.int .i64 (30))]).bind fun x67 => gT x67 fun x68 => gC x68 fun x69 x70 => gA x69 fun x71 => gC x71 fun x72 x73 => gI .i64 x72 fun x74 => gC x73 fun x75 x76 => gI .i64 x75 fun x77 => gC x76 fun x78 x79 => gB x78 fun x80 => gE x79 (gC x70 fun x81 x82 => gI .i64 x81 fun x83 => gE x82 ((F12 n [(.agg [(.int .i64 x25), (.int .i64 x28), (.bool x31)]), (.int .i64 (0)), (.int .i64 (30))]).bind fun x84 => gT x84 fun x85 => gC x85 fun x86 x87 => gA x86 fun x88 => gC x88 fun x89 x90 => gI .i64 x89 fun x91 => gC x90 fun x92 x93 => gI .i64 x92 fun x94 => gC x93 fun x95 x96 => gB x95 fun x97 => gE x96 (gC x87 fun x98 x99 => gI .i64 x98 fun x100 => gE x99 (cond (x17 == (0 : Int)) (cond (x34 == (0 : Int)) (cond (x42 == (0 : Int)) (cond (x50 == (0 : Int)) (cond (x58 == (11 : Int)) (cond (x66 == (4 : Int)) (cond (x83 == (0 : Int)) (cond (x100 == (5 : Int)) (cond (x11 == (110500 : Int)) (cond (x28 == (-110300 : Int)) (cond x31 (cond (x39 == (1 : Int)) (cond (x47 == (2 : Int)) (k0 ((x74 == (7 : Int)) && ((x77 == (30 : Int)) && ((x80 == false) && true)))) (k0 false)) (k0 false)) (k0 false)) (k0 false)) (k0 false)) (k0 false)) (k0 false)) (k0 false)) (k0 false)) (k0 false)) (k0 false)) (k0 false)) (k0 false)))))))))))))

theorem tS9_1 {ρ : Type} (n d : Nat) (K : Out → List KB → Option ρ) :
    kC (ck9 n (d + 7)) (sp9 n) n c9_22 [vU, vU, vU, vU, vU, vU, vU, vU, vU, vU, vU, vU, vU, vU, vU, vU, vU, vU, vU, vU, vU, vU, vU, vU, vU, vU, vU, vU, vU, vU, vU, vU, vU, vU, vU, vU, vU, vU, vU, vU, vU, vU, vU, vU, vU, vU, vU, vU, vU, vU, vU, vU, vU, vU, vU, vU, vU, vU, vU, vU, vU, vU, vU, vU, vU, vU, vU, vU, vU, vU, vU, vU, vU, vU, vU, vU, vU, vU, vU, vU, vU, vU, vU, vU, vU, vU, vU, vU, vU, vU, vU, vU, vU, vU, vU, vU, vU, vU, vU, vU, vU, vU, vU, vU, vU, vU, vU, vU, vU, vU, vU, vU, vU, vU, vU, vU, vU, vU, vU, vU] [] (endK [(.tmp 0 none)] 0 K) =
    S9_1 n (fun (q1 : Bool) => K (.ret (.d (.bool q1))) []) := by kernel_rfl

theorem tF9 {ρ : Type} (n d : Nat) (K : Out → List KB → Option ρ) :
    ck9 n (d + 8) 9 [] [] K =
    S9_1 n (fun (q1 : Bool) => K (.ret (.d (.bool q1))) []) :=
  (show _ = kC (ck9 n (d + 7)) (sp9 n) n c9_22 [vU, vU, vU, vU, vU, vU, vU, vU, vU, vU, vU, vU, vU, vU, vU, vU, vU, vU, vU, vU, vU, vU, vU, vU, vU, vU, vU, vU, vU, vU, vU, vU, vU, vU, vU, vU, vU, vU, vU, vU, vU, vU, vU, vU, vU, vU, vU, vU, vU, vU, vU, vU, vU, vU, vU, vU, vU, vU, vU, vU, vU, vU, vU, vU, vU, vU, vU, vU, vU, vU, vU, vU, vU, vU, vU, vU, vU, vU, vU, vU, vU, vU, vU, vU, vU, vU, vU, vU, vU, vU, vU, vU, vU, vU, vU, vU, vU, vU, vU, vU, vU, vU, vU, vU, vU, vU, vU, vU, vU, vU, vU, vU, vU, vU, vU, vU, vU, vU, vU, vU] [] (endK [(.tmp 0 none)] 0 K) from by kernel_rfl).trans (tS9_1 n d K)

def F9 (n : Nat) : Ev.Fn
  | [] => S9_1 n (fun (q1 : Bool) => some (.bool q1))
  | _ => none

theorem p9 (n : Nat) : Pure Try.prog G0 9 (F9 n) := by
  refine pure_k bodyOK (spok9 n) (mkSp_S _) mix (callable_of (by kernel_rfl)) n 8 ?_
  intro ds x h
  unfold F9 at h
  split at h
  · rw [← h]
    exact (tF9 n 0 fin).trans (by kernel_rfl)
  · cases h

def spl3 (n : Nat) : List (FuncId × Ev.Fn) := [(9, F9 n), (10, F10 n), (11, F11 n), (12, F12 n), (13, F13 n), (14, F14 n), (15, F15 n)]

def sp3 (n : Nat) : SpecT := mkSp isS (spl3 n)

theorem spok3 (n : Nat) : SpecOK Try.prog G0 (sp3 n) := mkSp_ok callS (all_cons (p9 n) (all_cons (p10 n) (all_cons (p11 n) (all_cons (p12 n) (all_cons (p13 n) (all_cons (p14 n) (all_cons (p15 n) all_nil)))))))

def ck3 {ρ : Type} (n d : Nat) : CallK ρ := kF body (sp3 n) n d

def S3_1 {ρ : Type} (n : Nat) (a1 : Int) (a2 : Int) (a3 : Bool) (a4 : Int) (a5 : Int) (a6 : Bool) (a7 : Int) (a8 : Int) (k0 : Bool → Option ρ) : Option ρ :=
  (F9 n []).bind fun x1 => gB x1 fun x2 => (F10 n [(.agg [(.int .i64 a1), (.int .i64 a2), (.bool a3)]), (.int .i64 a7), (.int .i64 a8)]).bind fun x3 => gT x3 fun x4 => gC x4 fun x5 x6 => gA x5 fun x7 => gC x7 fun x8 x9 => gI .i64 x8 fun x10 => gC x9 fun x11 x12 => gI .i64 x11 fun x13 => gC x12 fun x14 x15 => gB x14 fun x16 => gE x15 (gC x6 fun x17 x18 => gI .i64 x17 fun x19 => gE x18 ((F11 n [(.agg [(.int .i64 a1), (.int .i64 a2), (.bool a3)]), (.int .i64 a7), (.int .i64 a8)]).bind fun x20 => gT x20 fun x21 => gC x21 fun x22 x23 => gA x22 fun x24 => gC x24 fun x25 x26 => gI .i64 x25 fun x27 => gC x26 fun x28 x29 => gI .i64 x28 fun x30 => gC x29 fun x31 x32 => gB x31 fun x33 => gE x32 (gC x23 fun x34 x35 => gI .i64 x34 fun x36 => gE x35 ((F12 n [(.agg [(.int .i64 a1), (.int .i64 a2), (.bool a3)]), (.int .i64 a7), (.int .i64 a8)]).bind fun x37 => gT x37 fun x38 => gC x38 fun x39 x40 => gA x39 fun x41 => gC x41 fun x42 x43 => gI .i64 x42 fun x44 => gC x43 fun x45 x46 => gI .i64 x45 fun x47 => gC x46 fun x48 x49 => gB x48 fun x50 => gE x49 (gC x40 fun x51 x52 => gI .i64 x51 fun x53 => gE x52 ((F13 n [(.agg [(.int .i64 a1), (.int .i64 a2), (.bool a3)]), (.int .i64 a7), (.int .i64 a8)]).bind fun x54 => gT x54 fun x55 => gC x55 fun x56 x57 => gA x56 fun x58 => gC x58 fun x59 x60 => gI .i64 x59 fun x61 => gC x60 fun x62 x63 => gI .i64 x62 fun x64 => gC x63 fun x65 x66 => gB x65 fun x67 => gE x66 (gC x57 fun x68 x69 => gI .i64 x68 fun x70 => gE x69 ((F14 n [(.agg [(.int .i64 a1), (.int .i64 a2), (.bool a3)]), (.agg [(.int .i64 a4), (.int .i64 a5), (.bool a6)])]).bind fun x71 => gT x71 fun x72 => gC x72 fun x73 x74 => gI .i64 x73 fun x75 => gC x74 fun x76 x77 => gI .i64 x76 fun x78 => gE x77 ((F15 n [(.agg [(.int .i64 a1), (.int .i64 a2), (.bool a3)]), (.agg [(.int .i64 a4), (.int .i64 a5), (.bool a6)])]).bind fun x79 => gT x79 fun x80 => gC x80 fun x81 x82 => gI .i64 x81 fun x83 => gC x82 fun x84 x85 => gI .i64 x84 fun x86 => gE x85 (cond x2 (cond ((x10 == x27) && ((x13 == x30) && ((x16 == x33) && true))) (cond (x19 == x36) (cond ((x44 == x61) && ((x47 == x64) && ((x50 == x67) && true))) (cond (x53 == x70) (cond (x75 == x83) (k0 (x78 == x86)) (k0 false)) (k0 false)) (k0 false)) (k0 false)) (k0 false)) (k0 false)))))))))))

theorem tS3_1 {ρ : Type} (n d : Nat) (a1 : Int) (a2 : Int) (a3 : Bool) (a4 : Int) (a5 : Int) (a6 : Bool) (a7 : Int) (a8 : Int) (K : Out → List KB → Option ρ) :
    kC (ck3 n (d + 7)) (sp3 n) n c3_18 [(.d (.agg [(.int .i64 a1), (.int .i64 a2), (.bool a3)])), (.d (.agg [(.int .i64 a4), (.int .i64 a5), (.bool a6)])), (.d (.int .i64 a7)), (.d (.int .i64 a8)), vU, vU, vU, vU, vU, vU, vU, vU, vU, vU, vU, vU, vU, vU, vU, vU, vU, vU, vU, vU, vU, vU, vU, vU, vU, vU, vU, vU, vU, vU, vU, vU, vU, vU, vU, vU, vU, vU, vU, vU, vU, vU, vU, vU, vU, vU, vU, vU, vU, vU, vU, vU, vU, vU, vU, vU, vU, vU, vU, vU, vU, vU, vU, vU, vU, vU, vU, vU, vU, vU, vU, vU, vU, vU, vU, vU, vU, vU, vU, vU, vU, vU, vU, vU, vU, vU, vU, vU, vU, vU] [] (endK [(.tmp 8 none)] 0 K) =
    S3_1 n a1 a2 a3 a4 a5 a6 a7 a8 (fun (q1 : Bool) => K (.ret (.d (.bool q1))) []) := by kernel_rfl

theorem tF3 {ρ : Type} (n d : Nat) (b1 : Int) (b2 : Int) (b3 : Bool) (b4 : Int) (b5 : Int) (b6 : Bool) (b7 : Int) (b8 : Int) (K : Out → List KB → Option ρ) :
    ck3 n (d + 8) 3 [.d (.agg [(.int .i64 b1), (.int .i64 b2), (.bool b3)]), .d (.agg [(.int .i64 b4), (.int .i64 b5), (.bool b6)]), .d (.int .i64 b7), .d (.int .i64 b8)] [] K =
    S3_1 n b1 b2 b3 b4 b5 b6 b7 b8 (fun (q1 : Bool) => K (.ret (.d (.bool q1))) []) :=
  (show _ = kC (ck3 n (d + 7)) (sp3 n) n c3_18 [(.d (.agg [(.int .i64 b1), (.int .i64 b2), (.bool b3)])), (.d (.agg [(.int .i64 b4), (.int .i64 b5), (.bool b6)])), (.d (.int .i64 b7)), (.d (.int .i64 b8)), vU, vU, vU, vU, vU, vU, vU, vU, vU, vU, vU, vU, vU, vU, vU, vU, vU, vU, vU, vU, vU, vU, vU, vU, vU, vU, vU, vU, vU, vU, vU, vU, vU, vU, vU, vU, vU, vU, vU, vU, vU, vU, vU, vU, vU, vU, vU, vU, vU, vU, vU, vU, vU, vU, vU, vU, vU, vU, vU, vU, vU, vU, vU, vU, vU, vU, vU, vU, vU, vU, vU, vU, vU, vU, vU, vU, vU, vU, vU, vU, vU, vU, vU, vU, vU, vU, vU, vU, vU, vU] [] (endK [(.tmp 8 none)] 0 K) from by kernel_rfl).trans (tS3_1 n d b1 b2 b3 b4 b5 b6 b7 b8 K)

def F3 (n : Nat) : Ev.Fn
  | [(.agg [(.int .i64 b1), (.int .i64 b2), (.bool b3)]), (.agg [(.int .i64 b4), (.int .i64 b5), (.bool b6)]), (.int .i64 b7), (.int .i64 b8)] => S3_1 n b1 b2 b3 b4 b5 b6 b7 b8 (fun (q1 : Bool) => some (.bool q1))
  | _ => none

theorem p3 (n : Nat) : Pure Try.prog G0 3 (F3 n) := by
  refine pure_k bodyOK (spok3 n) (mkSp_S _) mix (callable_of (by kernel_rfl)) n 8 ?_
  intro ds x h
  unfold F3 at h
  split at h
  · rename_i b1 b2 b3 b4 b5 b6 b7 b8
    rw [← h]
    exact (tF3 n 0 b1 b2 b3 b4 b5 b6 b7 b8 fin).trans (by kernel_rfl)
  · cases h

def spl4 (n : Nat) : List (FuncId × Ev.Fn) := [(9, F9 n), (16, F16 n), (17, F17 n)]

def sp4 (n : Nat) : SpecT := mkSp isS (spl4 n)

theorem spok4 (n : Nat) : SpecOK Try.prog G0 (sp4 n) := mkSp_ok callS (all_cons (p9 n) (all_cons (p16 n) (all_cons (p17 n) all_nil)))

def ck4 {ρ : Type} (n d : Nat) : CallK ρ := kF body (sp4 n) n d

def S4_1 {ρ : Type} (n : Nat) (a1 : Int) (a2 : Int) (a3 : Bool) (a4 : Nat) (a5 : List D) (a6 : Bool) (a7 : Int) (k0 : Bool → Option ρ) : Option ρ :=
  (F9 n []).bind fun x1 => gB x1 fun x2 => (F16 n [(.agg [(.int .i64 a1), (.int .i64 a2), (.bool a3)]), (.lst 2 a4 a5 a6)]).bind fun x3 => gB x3 fun x4 => cond (!x4) (k0 x2) (cond ((a4 : Int) == (0 : Int)) (k0 x2) (ass (!((a4 : Int) == (0 : Int))) ((F17 n [(.agg [(.int .i64 a1), (.int .i64 a2), (.bool a3)]), (.lst 2 a4 a5 a6)]).bind fun x5 => gT x5 fun x6 => gC x6 fun x7 x8 => gA x7 fun x9 => gC x9 fun x10 x11 => gI .i64 x10 fun x12 => gC x11 fun x13 x14 => gI .i64 x13 fun x15 => gC x14 fun x16 x17 => gB x16 fun x18 => gE x17 (gC x8 fun x19 x20 => gI .i64 x19 fun x21 => gC x20 fun x22 x23 => gB x22 fun x24 => gE x23 (ass (decide ((0 : Int) ≤ (Int.tmod (IntKind.i64.wrap a7) (a4 : Int))) && decide ((Int.tmod (IntKind.i64.wrap a7) (a4 : Int)) ≤ (a4 : Int))) (ass (List.all (List.take ((a4 - (Int.toNat (Int.tmod (IntKind.i64.wrap a7) (a4 : Int)))) * 2) (List.drop ((Int.toNat (Int.tmod (IntKind.i64.wrap a7) (a4 : Int))) * 2) a5)) cellD && List.length (List.take ((a4 - (Int.toNat (Int.tmod (IntKind.i64.wrap a7) (a4 : Int)))) * 2) (List.drop ((Int.toNat (Int.tmod (IntKind.i64.wrap a7) (a4 : Int))) * 2) a5)) == (a4 - (Int.toNat (Int.tmod (IntKind.i64.wrap a7) (a4 : Int)))) * 2) (ass (decide ((0 + (a4 - (Int.toNat (Int.tmod (IntKind.i64.wrap a7) (a4 : Int))))) * 2 ≤ 140737488355328) && decide ((0 + (a4 - (Int.toNat (Int.tmod (IntKind.i64.wrap a7) (a4 : Int))))) ≤ 9223372036854775807)) (ass (decide ((0 : Int) ≤ (Int.tmod (IntKind.i64.wrap a7) (a4 : Int))) && decide ((Int.tmod (IntKind.i64.wrap a7) (a4 : Int)) ≤ (a4 : Int))) (ass (List.all (List.take ((Int.toNat (Int.tmod (IntKind.i64.wrap a7) (a4 : Int))) * 2) a5) cellD && List.length (List.take ((Int.toNat (Int.tmod (IntKind.i64.wrap a7) (a4 : Int))) * 2) a5) == (Int.toNat (Int.tmod (IntKind.i64.wrap a7) (a4 : Int))) * 2) (ass ((0 + (a4 - (Int.toNat (Int.tmod (IntKind.i64.wrap a7) (a4 : Int))))) == (0 + (a4 - (Int.toNat (Int.tmod (IntKind.i64.wrap a7) (a4 : Int))))) && (decide (((0 + (a4 - (Int.toNat (Int.tmod (IntKind.i64.wrap a7) (a4 : Int))))) + (Int.toNat (Int.tmod (IntKind.i64.wrap a7) (a4 : Int)))) * 2 ≤ 140737488355328) && decide (((0 + (a4 - (Int.toNat (Int.tmod (IntKind.i64.wrap a7) (a4 : Int))))) + (Int.toNat (Int.tmod (IntKind.i64.wrap a7) (a4 : Int)))) ≤ 9223372036854775807))) ((F17 n [(.agg [(.int .i64 a1), (.int .i64 a2), (.bool a3)]), (.lst 2 ((0 + (a4 - (Int.toNat (Int.tmod (IntKind.i64.wrap a7) (a4 : Int))))) + (Int.toNat (Int.tmod (IntKind.i64.wrap a7) (a4 : Int)))) ((([] : List D) ++ (List.take ((a4 - (Int.toNat (Int.tmod (IntKind.i64.wrap a7) (a4 : Int)))) * 2) (List.drop ((Int.toNat (Int.tmod (IntKind.i64.wrap a7) (a4 : Int))) * 2) a5))) ++ (List.take ((Int.toNat (Int.tmod (IntKind.i64.wrap a7) (a4 : Int))) * 2) a5)) false)]).bind fun x25 => gT x25 fun x26 => gC x26 fun x27 x28 => gA x27 fun x29 => gC x29 fun x30 x31 => gI .i64 x30 fun x32 => gC x31 fun x33 x34 => gI .i64 x33 fun x35 => gC x34 fun x36 x37 => gB x36 fun x38 => gE x37 (gC x28 fun x39 x40 => gI .i64 x39 fun x41 => gC x40 fun x42 x43 => gB x42 fun x44 => gE x43 (cond a3 (cond x2 (cond x24 (cond x44 (cond ((x12 == x32) && ((x15 == x35) && ((x18 == x38) && true))) (k0 ((x12 == a1) && ((x15 == (IntKind.i64.wrap (a2 - (IntKind.i64.wrap ((2300 : Int) * x21))))) && ((x18 == a3) && true)))) (k0 false)) (k0 false)) (k0 false)) (k0 false)) (cond x2 (cond x24 (cond x44 (cond ((x12 == x32) && ((x15 == x35) && ((x18 == x38) && true))) (k0 ((x12 == a1) && ((x15 == (IntKind.i64.wrap (a2 + (IntKind.i64.wrap ((2300 : Int) * x21))))) && ((x18 == a3) && true)))) (k0 false)) (k0 false)) (k0 false)) (k0 false)))))))))))))))

theorem tS4_1 {ρ : Type} (n d : Nat) (a1 : Int) (a2 : Int) (a3 : Bool) (a4 : Nat) (a5 : List D) (a6 : Bool) (a7 : Int) (K : Out → List KB → Option ρ) :
    kC (ck4 n (d + 7)) (sp4 n) n c4_28 [(.d (.agg [(.int .i64 a1), (.int .i64 a2), (.bool a3)])), (.d (.lst 2 a4 a5 a6)), (.d (.int .u16 a7)), vU, vU, vU, vU, vU, vU, vU, vU, vU, vU, vU, vU, vU, vU, vU, vU, vU, vU, vU, vU, vU, vU, vU, vU, vU, vU, vU, vU, vU, vU, vU, vU, vU, vU, vU, vU, vU, vU, vU, vU, vU, vU, vU, vU, vU, vU, vU, vU, vU, vU, vU, vU, vU, vU, vU, vU, vU, vU, vU, vU, vU, vU, vU, vU, vU, vU, vU, vU, vU, vU, vU, vU, vU, vU, vU, vU, vU, vU, vU, vU, vU, vU, vU, vU, vU] [] (endK [(.tmp 6 none)] 0 K) =
    S4_1 n a1 a2 a3 a4 a5 a6 a7 (fun (q1 : Bool) => K (.ret (.d (.bool q1))) []) := by kernel_rfl

theorem tF4 {ρ : Type} (n d : Nat) (b1 : Int) (b2 : Int) (b3 : Bool) (b4 : Nat) (b5 : List D) (b6 : Bool) (b7 : Int) (K : Out → List KB → Option ρ) :
    ck4 n (d + 8) 4 [.d (.agg [(.int .i64 b1), (.int .i64 b2), (.bool b3)]), .d (.lst 2 b4 b5 b6), .d (.int .u16 b7)] [] K =
    S4_1 n b1 b2 b3 b4 b5 b6 b7 (fun (q1 : Bool) => K (.ret (.d (.bool q1))) []) :=
  (show _ = kC (ck4 n (d + 7)) (sp4 n) n c4_28 [(.d (.agg [(.int .i64 b1), (.int .i64 b2), (.bool b3)])), (.d (.lst 2 b4 b5 b6)), (.d (.int .u16 b7)), vU, vU, vU, vU, vU, vU, vU, vU, vU, vU, vU, vU, vU, vU, vU, vU, vU, vU, vU, vU, vU, vU, vU, vU, vU, vU, vU, vU, vU, vU, vU, vU, vU, vU, vU, vU, vU, vU, vU, vU, vU, vU, vU, vU, vU, vU, vU, vU, vU, vU, vU, vU, vU, vU, vU, vU, vU, vU, vU, vU, vU, vU, vU, vU, vU, vU, vU, vU, vU, vU, vU, vU, vU, vU, vU, vU, vU, vU, vU, vU, vU, vU, vU, vU, vU] [] (endK [(.tmp 6 none)] 0 K) from by kernel_rfl).trans (tS4_1 n d b1 b2 b3 b4 b5 b6 b7 K)

def F4 (n : Nat) : Ev.Fn
  | [(.agg [(.int .i64 b1), (.int .i64 b2), (.bool b3)]), (.lst 2 b4 b5 b6), (.int .u16 b7)] => S4_1 n b1 b2 b3 b4 b5 b6 b7 (fun (q1 : Bool) => some (.bool q1))
  | _ => none

theorem p4 (n : Nat) : Pure Try.prog G0 4 (F4 n) := by
  refine pure_k bodyOK (spok4 n) (mkSp_S _) mix (callable_of (by kernel_rfl)) n 8 ?_
  intro ds x h
  unfold F4 at h
  split at h
  · rename_i b1 b2 b3 b4 b5 b6 b7
    rw [← h]
    exact (tF4 n 0 b1 b2 b3 b4 b5 b6 b7 fin).trans (by kernel_rfl)
  · cases h

def spl5 (n : Nat) : List (FuncId × Ev.Fn) := [(9, F9 n), (14, F14 n), (16, F16 n), (17, F17 n)]

def sp5 (n : Nat) : SpecT := mkSp isS (spl5 n)

theorem spok5 (n : Nat) : SpecOK Try.prog G0 (sp5 n) := mkSp_ok callS (all_cons (p9 n) (all_cons (p14 n) (all_cons (p16 n) (all_cons (p17 n) all_nil))))

def ck5 {ρ : Type} (n d : Nat) : CallK ρ := kF body (sp5 n) n d

def S5_1 {ρ : Type} (n : Nat) (a1 : Int) (a2 : Int) (a3 : Bool) (a4 : Nat) (a5 : List D) (a6 : Bool) (k0 : Bool → Option ρ) : Option ρ :=
  (F9 n []).bind fun x1 => gB x1 fun x2 => (F16 n [(.agg [(.int .i64 a1), (.int .i64 a2), (.bool true)]), (.lst 2 a4 a5 a6)]).bind fun x3 => gB x3 fun x4 => cond (!x4) (k0 x2) ((F17 n [(.agg [(.int .i64 a1), (.int .i64 a2), (.bool true)]), (.lst 2 a4 a5 a6)]).bind fun x5 => gT x5 fun x6 => gC x6 fun x7 x8 => gA x7 fun x9 => gC x9 fun x10 x11 => gI .i64 x10 fun x12 => gC x11 fun x13 x14 => gI .i64 x13 fun x15 => gC x14 fun x16 x17 => gB x16 fun x18 => gE x17 (gC x8 fun x19 x20 => gI .i64 x19 fun x21 => gC x20 fun x22 x23 => gB x22 fun x24 => gE x23 ((F14 n [(.agg [(.int .i64 a1), (.int .i64 a2), (.bool true)]), (.agg [(.int .i64 x12), (.int .i64 x15), (.bool x18)])]).bind fun x25 => gT x25 fun x26 => gC x26 fun x27 x28 => gI .i64 x27 fun x29 => gC x28 fun x30 x31 => gI .i64 x30 fun x32 => gE x31 (cond x2 (cond x24 (cond (x29 == (0 : Int)) (cond (x21 == (0 : Int)) (cond (x32 == (0 : Int)) (k0 true) (cond (decide (x21 > (0 : Int))) (k0 (x32 == (11 : Int))) (k0 false))) (cond (decide (x21 > (0 : Int))) (k0 (x32 == (11 : Int))) (k0 false))) (k0 false)) (k0 false)) (k0 false)))))

theorem tS5_1 {ρ : Type} (n d : Nat) (a1 : Int) (a2 : Int) (a3 : Bool) (a4 : Nat) (a5 : List D) (a6 : Bool) (K : Out → List KB → Option ρ) :
    kC (ck5 n (d + 7)) (sp5 n) n c5_20 [(.d (.agg [(.int .i64 a1), (.int .i64 a2), (.bool a3)])), (.d (.lst 2 a4 a5 a6)), vU, vU, vU, vU, vU, vU, vU, vU, vU, vU, vU, vU, vU, vU, vU, vU, vU, vU, vU, vU, vU, vU, vU, vU, vU, vU, vU, vU, vU, vU, vU, vU, vU, vU, vU, vU, vU, vU, vU, vU, vU, vU, vU, vU, vU, vU, vU, vU, vU, vU, vU, vU, vU] [] (endK [(.tmp 4 none)] 0 K) =
    S5_1 n a1 a2 a3 a4 a5 a6 (fun (q1 : Bool) => K (.ret (.d (.bool q1))) []) := by kernel_rfl

theorem tF5 {ρ : Type} (n d : Nat) (b1 : Int) (b2 : Int) (b3 : Bool) (b4 : Nat) (b5 : List D) (b6 : Bool) (K : Out → List KB → Option ρ) :
    ck5 n (d + 8) 5 [.d (.agg [(.int .i64 b1), (.int .i64 b2), (.bool b3)]), .d (.lst 2 b4 b5 b6)] [] K =
    S5_1 n b1 b2 b3 b4 b5 b6 (fun (q1 : Bool) => K (.ret (.d (.bool q1))) []) :=
  (show _ = kC (ck5 n (d + 7)) (sp5 n) n c5_20 [(.d (.agg [(.int .i64 b1), (.int .i64 b2), (.bool b3)])), (.d (.lst 2 b4 b5 b6)), vU, vU, vU, vU, vU, vU, vU, vU, vU, vU, vU, vU, vU, vU, vU, vU, vU, vU, vU, vU, vU, vU, vU, vU, vU, vU, vU, vU, vU, vU, vU, vU, vU, vU, vU, vU, vU, vU, vU, vU, vU, vU, vU, vU, vU, vU, vU, vU, vU, vU, vU, vU, vU] [] (endK [(.tmp 4 none)] 0 K) from by kernel_rfl).trans (tS5_1 n d b1 b2 b3 b4 b5 b6 K)

def F5 (n : Nat) : Ev.Fn
  | [(.agg [(.int .i64 b1), (.int .i64 b2), (.bool b3)]), (.lst 2 b4 b5 b6)] => S5_1 n b1 b2 b3 b4 b5 b6 (fun (q1 : Bool) => some (.bool q1))
  | _ => none

theorem p5 (n : Nat) : Pure Try.prog G0 5 (F5 n) := by
  refine pure_k bodyOK (spok5 n) (mkSp_S _) mix (callable_of (by kernel_rfl)) n 8 ?_
  intro ds x h
  unfold F5 at h
  split at h
  · rename_i b1 b2 b3 b4 b5 b6
    rw [← h]
    exact (tF5 n 0 b1 b2 b3 b4 b5 b6 fin).trans (by kernel_rfl)
  · cases h

def spl6 (n : Nat) : List (FuncId × Ev.Fn) := [(9, F9 n), (14, F14 n), (16, F16 n), (17, F17 n)]

def sp6 (n : Nat) : SpecT := mkSp isS (spl6 n)

theorem spok6 (n : Nat) : SpecOK Try.prog G0 (sp6 n) := mkSp_ok callS (all_cons (p9 n) (all_cons (p14 n) (all_cons (p16 n) (all_cons (p17 n) all_nil))))

def ck6 {ρ : Type} (n d : Nat) : CallK ρ := kF body (sp6 n) n d

def S6_1 {ρ : Type} (n : Nat) (a1 : Int) (a2 : Int) (a3 : Bool) (a4 : Nat) (a5 : List D) (a6 : Bool) (a7 : Int) (k0 : Bool → Option ρ) : Option ρ :=
  (F9 n []).bind fun x1 => gB x1 fun x2 => (F16 n [(.agg [(.int .i64 a1), (.int .i64 a2), (.bool false)]), (.lst 2 a4 a5 a6)]).bind fun x3 => gB x3 fun x4 => cond (!x4) (k0 x2) (cond ((a4 : Int) == (0 : Int)) (k0 x2) (ass (!((a4 : Int) == (0 : Int))) (ass (decide ((0 : Int) ≤ (Int.tmod (IntKind.i64.wrap a7) (a4 : Int))) && decide ((Int.tmod (IntKind.i64.wrap a7) (a4 : Int)) ≤ (a4 : Int))) ((F17 n [(.agg [(.int .i64 a1), (.int .i64 a2), (.bool false)]), (.lst 2 (Int.toNat (Int.tmod (IntKind.i64.wrap a7) (a4 : Int))) (List.take ((Int.toNat (Int.tmod (IntKind.i64.wrap a7) (a4 : Int))) * 2) a5) (a6 && ((Int.toNat (Int.tmod (IntKind.i64.wrap a7) (a4 : Int))) == a4)))]).bind fun x5 => gT x5 fun x6 => gC x6 fun x7 x8 => gA x7 fun x9 => gC x9 fun x10 x11 => gI .i64 x10 fun x12 => gC x11 fun x13 x14 => gI .i64 x13 fun x15 => gC x14 fun x16 x17 => gB x16 fun x18 => gE x17 (gC x8 fun x19 x20 => gI .i64 x19 fun x21 => gC x20 fun x22 x23 => gB x22 fun x24 => gE x23 (ass (decide ((0 : Int) ≤ (Int.tmod (IntKind.i64.wrap a7) (a4 : Int))) && decide ((Int.tmod (IntKind.i64.wrap a7) (a4 : Int)) ≤ (a4 : Int))) ((F17 n [(.agg [(.int .i64 x12), (.int .i64 x15), (.bool x18)]), (.lst 2 (a4 - (Int.toNat (Int.tmod (IntKind.i64.wrap a7) (a4 : Int)))) (List.take ((a4 - (Int.toNat (Int.tmod (IntKind.i64.wrap a7) (a4 : Int)))) * 2) (List.drop ((Int.toNat (Int.tmod (IntKind.i64.wrap a7) (a4 : Int))) * 2) a5)) (a6 && (a4 == a4)))]).bind fun x25 => gT x25 fun x26 => gC x26 fun x27 x28 => gA x27 fun x29 => gC x29 fun x30 x31 => gI .i64 x30 fun x32 => gC x31 fun x33 x34 => gI .i64 x33 fun x35 => gC x34 fun x36 x37 => gB x36 fun x38 => gE x37 (gC x28 fun x39 x40 => gI .i64 x39 fun x41 => gC x40 fun x42 x43 => gB x42 fun x44 => gE x43 ((F14 n [(.agg [(.int .i64 a1), (.int .i64 a2), (.bool false)]), (.agg [(.int .i64 x12), (.int .i64 x15), (.bool x18)])]).bind fun x45 => gT x45 fun x46 => gC x46 fun x47 x48 => gI .i64 x47 fun x49 => gC x48 fun x50 x51 => gI .i64 x50 fun x52 => gE x51 ((F14 n [(.agg [(.int .i64 x12), (.int .i64 x15), (.bool x18)]), (.agg [(.int .i64 x32), (.int .i64 x35), (.bool x38)])]).bind fun x53 => gT x53 fun x54 => gC x54 fun x55 x56 => gI .i64 x55 fun x57 => gC x56 fun x58 x59 => gI .i64 x58 fun x60 => gE x59 ((F14 n [(.agg [(.int .i64 a1), (.int .i64 a2), (.bool false)]), (.agg [(.int .i64 x32), (.int .i64 x35), (.bool x38)])]).bind fun x61 => gT x61 fun x62 => gC x62 fun x63 x64 => gI .i64 x63 fun x65 => gC x64 fun x66 x67 => gI .i64 x66 fun x68 => gE x67 (cond x2 (cond x24 (cond x44 (cond (x52 == (0 : Int)) (cond (x60 == (0 : Int)) (cond (x68 == (0 : Int)) (cond (decide ((IntKind.i64.wrap (x49 + x57)) ≤ x65)) (k0 (decide (x65 ≤ (IntKind.i64.wrap ((IntKind.i64.wrap (x49 + x57)) + (1 : Int)))))) (k0 false)) (k0 false)) (k0 false)) (k0 false)) (k0 false)) (k0 false)) (k0 false)))))))))))))

theorem tS6_1 {ρ : Type} (n d : Nat) (a1 : Int) (a2 : Int) (a3 : Bool) (a4 : Nat) (a5 : List D) (a6 : Bool) (a7 : Int) (K : Out → List KB → Option ρ) :
    kC (ck6 n (d + 7)) (sp6 n) n c6_28 [(.d (.agg [(.int .i64 a1), (.int .i64 a2), (.bool a3)])), (.d (.lst 2 a4 a5 a6)), (.d (.int .u16 a7)), vU, vU, vU, vU, vU, vU, vU, vU, vU, vU, vU, vU, vU, vU, vU, vU, vU, vU, vU, vU, vU, vU, vU, vU, vU, vU, vU, vU, vU, vU, vU, vU, vU, vU, vU, vU, vU, vU, vU, vU, vU, vU, vU, vU, vU, vU, vU, vU, vU, vU, vU, vU, vU, vU, vU, vU, vU, vU, vU, vU, vU, vU, vU, vU, vU, vU, vU, vU, vU, vU, vU, vU, vU, vU, vU, vU, vU, vU, vU, vU, vU, vU, vU, vU, vU, vU, vU, vU, vU, vU, vU, vU, vU, vU, vU, vU, vU, vU, vU, vU, vU, vU, vU, vU, vU] [] (endK [(.tmp 6 none)] 0 K) =
    S6_1 n a1 a2 a3 a4 a5 a6 a7 (fun (q1 : Bool) => K (.ret (.d (.bool q1))) []) := by kernel_rfl

theorem tF6 {ρ : Type} (n d : Nat) (b1 : Int) (b2 : Int) (b3 : Bool) (b4 : Nat) (b5 : List D) (b6 : Bool) (b7 : Int) (K : Out → List KB → Option ρ) :
    ck6 n (d + 8) 6 [.d (.agg [(.int .i64 b1), (.int .i64 b2), (.bool b3)]), .d (.lst 2 b4 b5 b6), .d (.int .u16 b7)] [] K =
    S6_1 n b1 b2 b3 b4 b5 b6 b7 (fun (q1 : Bool) => K (.ret (.d (.bool q1))) []) :=
  (show _ = kC (ck6 n (d + 7)) (sp6 n) n c6_28 [(.d (.agg [(.int .i64 b1), (.int .i64 b2), (.bool b3)])), (.d (.lst 2 b4 b5 b6)), (.d (.int .u16 b7)), vU, vU, vU, vU, vU, vU, vU, vU, vU, vU, vU, vU, vU, vU, vU, vU, vU, vU, vU, vU, vU, vU, vU, vU, vU, vU, vU, vU, vU, vU, vU, vU, vU, vU, vU, vU, vU, vU, vU, vU, vU, vU, vU, vU, vU, vU, vU, vU, vU, vU, vU, vU, vU, vU, vU, vU, vU, vU, vU, vU, vU, vU, vU, vU, vU, vU, vU, vU, vU, vU, vU, vU, vU, vU, vU, vU, vU, vU, vU, vU, vU, vU, vU, vU, vU, vU, vU, vU, vU, vU, vU, vU, vU, vU, vU, vU, vU, vU, vU, vU, vU, vU, vU, vU, vU] [] (endK [(.tmp 6 none)] 0 K) from by kernel_rfl).trans (tS6_1 n d b1 b2 b3 b4 b5 b6 b7 K)

def F6 (n : Nat) : Ev.Fn
  | [(.agg [(.int .i64 b1), (.int .i64 b2), (.bool b3)]), (.lst 2 b4 b5 b6), (.int .u16 b7)] => S6_1 n b1 b2 b3 b4 b5 b6 b7 (fun (q1 : Bool) => some (.bool q1))
  | _ => none

theorem p6 (n : Nat) : Pure Try.prog G0 6 (F6 n) := by
  refine pure_k bodyOK (spok6 n) (mkSp_S _) mix (callable_of (by kernel_rfl)) n 8 ?_
  intro ds x h
  unfold F6 at h
  split at h
  · rename_i b1 b2 b3 b4 b5 b6 b7
    rw [← h]
    exact (tF6 n 0 b1 b2 b3 b4 b5 b6 b7 fin).trans (by kernel_rfl)
  · cases h

def spl7 (n : Nat) : List (FuncId × Ev.Fn) := [(9, F9 n), (12, F12 n), (14, F14 n), (16, F16 n), (17, F17 n)]

def sp7 (n : Nat) : SpecT := mkSp isS (spl7 n)

theorem spok7 (n : Nat) : SpecOK Try.prog G0 (sp7 n) := mkSp_ok callS (all_cons (p9 n) (all_cons (p12 n) (all_cons (p14 n) (all_cons (p16 n) (all_cons (p17 n) all_nil)))))

def ck7 {ρ : Type} (n d : Nat) : CallK ρ := kF body (sp7 n) n d

def S7_1 {ρ : Type} (n : Nat) (a1 : Int) (a2 : Int) (a3 : Bool) (a4 : Int) (a5 : Int) (a6 : Nat) (a7 : List D) (a8 : Bool) (k0 : Bool → Option ρ) : Option ρ :=
  (F9 n []).bind fun x1 => gB x1 fun x2 => (F12 n [(.agg [(.int .i64 a1), (.int .i64 a2), (.bool a3)]), (.int .i64 a4), (.int .i64 a5)]).bind fun x3 => gT x3 fun x4 => gC x4 fun x5 x6 => gA x5 fun x7 => gC x7 fun x8 x9 => gI .i64 x8 fun x10 => gC x9 fun x11 x12 => gI .i64 x11 fun x13 => gC x12 fun x14 x15 => gB x14 fun x16 => gE x15 (gC x6 fun x17 x18 => gI .i64 x17 fun x19 => gE x18 (cond (x19 != (0 : Int)) (k0 x2) ((F16 n [(.agg [(.int .i64 x10), (.int .i64 x13), (.bool x16)]), (.lst 2 a6 a7 a8)]).bind fun x20 => gB x20 fun x21 => cond (!x21) (k0 x2) ((F17 n [(.agg [(.int .i64 x10), (.int .i64 x13), (.bool x16)]), (.lst 2 a6 a7 a8)]).bind fun x22 => gT x22 fun x23 => gC x23 fun x24 x25 => gA x24 fun x26 => gC x26 fun x27 x28 => gI .i64 x27 fun x29 => gC x28 fun x30 x31 => gI .i64 x30 fun x32 => gC x31 fun x33 x34 => gB x33 fun x35 => gE x34 (gC x25 fun x36 x37 => gI .i64 x36 fun x38 => gC x37 fun x39 x40 => gB x39 fun x41 => gE x40 ((F14 n [(.agg [(.int .i64 a1), (.int .i64 a2), (.bool a3)]), (.agg [(.int .i64 x29), (.int .i64 x32), (.bool x35)])]).bind fun x42 => gT x42 fun x43 => gC x43 fun x44 x45 => gI .i64 x44 fun x46 => gC x45 fun x47 x48 => gI .i64 x47 fun x49 => gE x48 ((F14 n [(.agg [(.int .i64 x29), (.int .i64 x32), (.bool x35)]), (.agg [(.int .i64 a1), (.int .i64 a2), (.bool a3)])]).bind fun x50 => gT x50 fun x51 => gC x51 fun x52 x53 => gI .i64 x52 fun x54 => gC x53 fun x55 x56 => gI .i64 x55 fun x57 => gE x56 ((F14 n [(.agg [(.int .i64 x10), (.int .i64 x13), (.bool x16)]), (.agg [(.int .i64 x29), (.int .i64 x32), (.bool x35)])]).bind fun x58 => gT x58 fun x59 => gC x59 fun x60 x61 => gI .i64 x60 fun x62 => gC x61 fun x63 x64 => gI .i64 x63 fun x65 => gE x64 (cond x2 (cond x41 (cond ((x10 == a4) && ((x13 == a5) && ((x16 == false) && true))) (cond (x49 == (4 : Int)) (cond (x57 == (4 : Int)) (k0 (x65 == (0 : Int))) (k0 false)) (k0 false)) (k0 false)) (k0 false)) (k0 false))))))))))

theorem tS7_1 {ρ : Type} (n d : Nat) (a1 : Int) (a2 : Int) (a3 : Bool) (a4 : Int) (a5 : Int) (a6 : Nat) (a7 : List D) (a8 : Bool) (K : Out → List KB → Option ρ) :
    kC (ck7 n (d + 7)) (sp7 n) n c7_24 [(.d (.agg [(.int .i64 a1), (.int .i64 a2), (.bool a3)])), (.d (.int .i64 a4)), (.d (.int .i64 a5)), (.d (.lst 2 a6 a7 a8)), vU, vU, vU, vU, vU, vU, vU, vU, vU, vU, vU, vU, vU, vU, vU, vU, vU, vU, vU, vU, vU, vU, vU, vU, vU, vU, vU, vU, vU, vU, vU, vU, vU, vU, vU, vU, vU, vU, vU, vU, vU, vU, vU, vU, vU, vU, vU, vU, vU, vU, vU, vU, vU, vU, vU, vU, vU, vU, vU, vU, vU, vU, vU, vU, vU, vU, vU, vU, vU, vU, vU, vU, vU, vU, vU, vU, vU, vU, vU, vU, vU, vU] [] (endK [(.tmp 8 none)] 0 K) =
    S7_1 n a1 a2 a3 a4 a5 a6 a7 a8 (fun (q1 : Bool) => K (.ret (.d (.bool q1))) []) := by kernel_rfl

theorem tF7 {ρ : Type} (n d : Nat) (b1 : Int) (b2 : Int) (b3 : Bool) (b4 : Int) (b5 : Int) (b6 : Nat) (b7 : List D) (b8 : Bool) (K : Out → List KB → Option ρ) :
    ck7 n (d + 8) 7 [.d (.agg [(.int .i64 b1), (.int .i64 b2), (.bool b3)]), .d (.int .i64 b4), .d (.int .i64 b5), .d (.lst 2 b6 b7 b8)] [] K =
    S7_1 n b1 b2 b3 b4 b5 b6 b7 b8 (fun (q1 : Bool) => K (.ret (.d (.bool q1))) []) :=
  (show _ = kC (ck7 n (d + 7)) (sp7 n) n c7_24 [(.d (.agg [(.int .i64 b1), (.int .i64 b2), (.bool b3)])), (.d (.int .i64 b4)), (.d (.int .i64 b5)), (.d (.lst 2 b6 b7 b8)), vU, vU, vU, vU, vU, vU, vU, vU, vU, vU, vU, vU, vU, vU, vU, vU, vU, vU, vU, vU, vU, vU, vU, vU, vU, vU, vU, vU, vU, vU, vU, vU, vU, vU, vU, vU, vU, vU, vU, vU, vU, vU, vU, vU, vU, vU, vU, vU, vU, vU, vU, vU, vU, vU, vU, vU, vU, vU, vU, vU, vU, vU, vU, vU, vU, vU, vU, vU, vU, vU, vU, vU, vU, vU, vU, vU, vU, vU, vU, vU, vU, vU] [] (endK [(.tmp 8 none)] 0 K) from by kernel_rfl).trans (tS7_1 n d b1 b2 b3 b4 b5 b6 b7 b8 K)

def F7 (n : Nat) : Ev.Fn
  | [(.agg [(.int .i64 b1), (.int .i64 b2), (.bool b3)]), (.int .i64 b4), (.int .i64 b5), (.lst 2 b6 b7 b8)] => S7_1 n b1 b2 b3 b4 b5 b6 b7 b8 (fun (q1 : Bool) => some (.bool q1))
  | _ => none

theorem p7 (n : Nat) : Pure Try.prog G0 7 (F7 n) := by
  refine pure_k bodyOK (spok7 n) (mkSp_S _) mix (callable_of (by kernel_rfl)) n 8 ?_
  intro ds x h
  unfold F7 at h
  split at h
  · rename_i b1 b2 b3 b4 b5 b6 b7 b8
    rw [← h]
    exact (tF7 n 0 b1 b2 b3 b4 b5 b6 b7 b8 fin).trans (by kernel_rfl)
  · cases h

def spl8 (n : Nat) : List (FuncId × Ev.Fn) := [(9, F9 n), (10, F10 n), (14, F14 n), (16, F16 n)]

def sp8 (n : Nat) : SpecT := mkSp isS (spl8 n)

theorem spok8 (n : Nat) : SpecOK Try.prog G0 (sp8 n) := mkSp_ok callS (all_cons (p9 n) (all_cons (p10 n) (all_cons (p14 n) (all_cons (p16 n) all_nil))))

def ck8 {ρ : Type} (n d : Nat) : CallK ρ := kF body (sp8 n) n d

def S8_2 {ρ : Type} (n : Nat) (a1 : Bool) (a2 : Int) (a3 : Int) (a4 : Int) (a5 : Int) (a6 : Int) (a7 : Int) (a8 : Int) (a9 : Int) (a10 : Int) (a11 : Bool) (k0 : Option ρ) (k1 : Int → Int → Int → Bool → Option ρ) (k2 : Option ρ) : Option ρ :=
  cond (decide (a6 < a5)) ((F10 n [(.agg [(.int .i64 a9), (.int .i64 a10), (.bool a11)]), (.int .i64 a2), (.int .i64 a3)]).bind fun x1 => gT x1 fun x2 => gC x2 fun x3 x4 => gA x3 fun x5 => gC x5 fun x6 x7 => gI .i64 x6 fun x8 => gC x7 fun x9 x10 => gI .i64 x9 fun x11 => gC x10 fun x12 x13 => gB x12 fun x14 => gE x13 (gC x4 fun x15 x16 => gI .i64 x15 fun x17 => gE x16 (cond (x17 != (0 : Int)) (k0) (k1 (IntKind.i64.wrap (a6 + (1 : Int))) x8 x11 x14)))) (k2)

theorem tS8_2 {ρ : Type} (n d : Nat) (a1 : Bool) (a2 : Int) (a3 : Int) (a4 : Int) (a5 : Int) (a6 : Int) (a7 : Int) (a8 : Int) (a9 : Int) (a10 : Int) (a11 : Bool) (K : Ex → List V → List KB → Option ρ) :
    kC (ck8 n (d + 7)) (sp8 n) n c8_32 [vN, vN, vN, vN, (.ptr 0 0), vN, vN, vN, vN, (.d (.bool a1)), (.d (.int .i64 a2)), (.d (.int .i64 a3)), (.d (.int .i64 a4)), (.ptr 1 0), vN, vN, vN, vN, vN, vN, vN, vN, vN, vN, vN, vN, vN, vN, vN, vN, vN, vN, vN, vN, vN, (.d (.int .i64 a5)), (.d (.int .i64 a6)), vN, vN, vN, vN, vN, vN, vN, vN, vN, vN, vN, vN, vN, vN, vN, vN, vN, vN, vN, vN, vN, vN, vN, vN, vN, vN, vN, vN, vN, vN, vN, vN, vN] [(.cells [(.d (.int .i64 a7)), (.d (.int .i64 a8)), (.d (.bool false))]), (.cells [(.d (.int .i64 a9)), (.d (.int .i64 a10)), (.d (.bool a11))])] (tidyK ti8_33 [] 2 K) =
    S8_2 n a1 a2 a3 a4 a5 a6 a7 a8 a9 a10 a11 (K .ret [vN, vN, vN, vN, vN, vN, vN, vN, (.d (.bool false)), vN, vN, vN, vN, vN, vN, vN, vN, vN, vN, vN, vN, vN, vN, vN, vN, vN, vN, vN, vN, vN, vN, vN, vN, vN, vN, vN, vN, vN, vN, vN, vN, vN, vN, vN, vN, vN, vN, vN, vN, vN, vN, vN, vN, vN, vN, vN, vN, vN, vN, vN, vN, vN, vN, vN, vN, vN, vN, vN, vN, vN] [(.cells [(.d (.int .i64 a7)), (.d (.int .i64 a8)), (.d (.bool false))]), (.cells [(.d (.int .i64 a9)), (.d (.int .i64 a10)), (.d (.bool a11))])]) (fun (q1 : Int) (q2 : Int) (q3 : Int) (q4 : Bool) => K .nor [vN, vN, vN, vN, (.ptr 0 0), vN, vN, vN, vN, (.d (.bool a1)), (.d (.int .i64 a2)), (.d (.int .i64 a3)), (.d (.int .i64 a4)), (.ptr 1 0), vN, vN, vN, vN, vN, vN, vN, vN, vN, vN, vN, vN, vN, vN, vN, vN, vN, vN, vN, vN, vN, (.d (.int .i64 a5)), (.d (.int .i64 q1)), vN, vN, vN, vN, vN, vN, vN, vN, vN, vN, vN, vN, vN, vN, vN, vN, vN, vN, vN, vN, vN, vN, vN, vN, vN, vN, vN, vN, vN, vN, vN, vN, vN] [(.cells [(.d (.int .i64 a7)), (.d (.int .i64 a8)), (.d (.bool false))]), (.cells [(.d (.int .i64 q2)), (.d (.int .i64 q3)), (.d (.bool q4))])]) (K (.exit 0) [vN, vN, vN, vN, (.ptr 0 0), vN, vN, vN, vN, (.d (.bool a1)), (.d (.int .i64 a2)), (.d (.int .i64 a3)), (.d (.int .i64 a4)), (.ptr 1 0), vN, vN, vN, vN, vN, vN, vN, vN, vN, vN, vN, vN, vN, vN, vN, vN, vN, vN, vN, vN, vN, (.d (.int .i64 a5)), (.d (.int .i64 a6)), vN, vN, vN, vN, vN, vN, vN, vN, vN, vN, vN, vN, vN, vN, vN, vN, vN, vN, vN, vN, vN, vN, vN, vN, vN, vN, vN, vN, vN, vN, vN, vN, vN] [(.cells [(.d (.int .i64 a7)), (.d (.int .i64 a8)), (.d (.bool false))]), (.cells [(.d (.int .i64 a9)), (.d (.int .i64 a10)), (.d (.bool a11))])]) := by kernel_rfl

def L8_3 {ρ : Type} (n : Nat) : Nat → Bool → Int → Int → Int → Int → Int → Int → Int → Int → Int → Bool → (Int → Int → Bool → Option ρ) → (Int → Int → Int → Bool → Option ρ) → Option ρ
  | 0, _, _, _, _, _, _, _, _, _, _, _, _, _ => none
  | m + 1, a1, a2, a3, a4, a5, a6, a7, a8, a9, a10, a11, k0, k1 => S8_2 n a1 a2 a3 a4 a5 a6 a7 a8 a9 a10 a11 (k0 a9 a10 a11) (fun x1 x2 x3 x4 => L8_3 n m a1 a2 a3 a4 a5 x1 a7 a8 x2 x3 x4 k0 k1) (k1 a6 a9 a10 a11)

theorem tL8_3 {ρ : Type} (n d : Nat) (K : Ex → List V → List KB → Option ρ) : ∀ (m : Nat) (a1 : Bool) (a2 : Int) (a3 : Int) (a4 : Int) (a5 : Int) (a6 : Int) (a7 : Int) (a8 : Int) (a9 : Int) (a10 : Int) (a11 : Bool),
    kLoop (kC (ck8 n (d + 7)) (sp8 n) n c8_32) ti8_33 [] m [vN, vN, vN, vN, (.ptr 0 0), vN, vN, vN, vN, (.d (.bool a1)), (.d (.int .i64 a2)), (.d (.int .i64 a3)), (.d (.int .i64 a4)), (.ptr 1 0), vN, vN, vN, vN, vN, vN, vN, vN, vN, vN, vN, vN, vN, vN, vN, vN, vN, vN, vN, vN, vN, (.d (.int .i64 a5)), (.d (.int .i64 a6)), vN, vN, vN, vN, vN, vN, vN, vN, vN, vN, vN, vN, vN, vN, vN, vN, vN, vN, vN, vN, vN, vN, vN, vN, vN, vN, vN, vN, vN, vN, vN, vN, vN] [(.cells [(.d (.int .i64 a7)), (.d (.int .i64 a8)), (.d (.bool false))]), (.cells [(.d (.int .i64 a9)), (.d (.int .i64 a10)), (.d (.bool a11))])] K =
    L8_3 n m a1 a2 a3 a4 a5 a6 a7 a8 a9 a10 a11 (fun (q1 : Int) (q2 : Int) (q3 : Bool) => K .ret [vN, vN, vN, vN, vN, vN, vN, vN, (.d (.bool false)), vN, vN, vN, vN, vN, vN, vN, vN, vN, vN, vN, vN, vN, vN, vN, vN, vN, vN, vN, vN, vN, vN, vN, vN, vN, vN, vN, vN, vN, vN, vN, vN, vN, vN, vN, vN, vN, vN, vN, vN, vN, vN, vN, vN, vN, vN, vN, vN, vN, vN, vN, vN, vN, vN, vN, vN, vN, vN, vN, vN, vN] [(.cells [(.d (.int .i64 a7)), (.d (.int .i64 a8)), (.d (.bool false))]), (.cells [(.d (.int .i64 q1)), (.d (.int .i64 q2)), (.d (.bool q3))])]) (fun (q1 : Int) (q2 : Int) (q3 : Int) (q4 : Bool) => K (.exit 0) [vN, vN, vN, vN, (.ptr 0 0), vN, vN, vN, vN, (.d (.bool a1)), (.d (.int .i64 a2)), (.d (.int .i64 a3)), (.d (.int .i64 a4)), (.ptr 1 0), vN, vN, vN, vN, vN, vN, vN, vN, vN, vN, vN, vN, vN, vN, vN, vN, vN, vN, vN, vN, vN, (.d (.int .i64 a5)), (.d (.int .i64 q1)), vN, vN, vN, vN, vN, vN, vN, vN, vN, vN, vN, vN, vN, vN, vN, vN, vN, vN, vN, vN, vN, vN, vN, vN, vN, vN, vN, vN, vN, vN, vN, vN, vN] [(.cells [(.d (.int .i64 a7)), (.d (.int .i64 a8)), (.d (.bool false))]), (.cells [(.d (.int .i64 q2)), (.d (.int .i64 q3)), (.d (.bool q4))])]) := by
  intro m
  induction m with
  | zero => intros; kernel_rfl
  | succ m ih =>
    intro a1 a2 a3 a4 a5 a6 a7 a8 a9 a10 a11
    exact (show _ = kC (ck8 n (d + 7)) (sp8 n) n c8_32 [vN, vN, vN, vN, (.ptr 0 0), vN, vN, vN, vN, (.d (.bool a1)), (.d (.int .i64 a2)), (.d (.int .i64 a3)), (.d (.int .i64 a4)), (.ptr 1 0), vN, vN, vN, vN, vN, vN, vN, vN, vN, vN, vN, vN, vN, vN, vN, vN, vN, vN, vN, vN, vN, (.d (.int .i64 a5)), (.d (.int .i64 a6)), vN, vN, vN, vN, vN, vN, vN, vN, vN, vN, vN, vN, vN, vN, vN, vN, vN, vN, vN, vN, vN, vN, vN, vN, vN, vN, vN, vN, vN, vN, vN, vN, vN] [(.cells [(.d (.int .i64 a7)), (.d (.int .i64 a8)), (.d (.bool false))]), (.cells [(.d (.int .i64 a9)), (.d (.int .i64 a10)), (.d (.bool a11))])] (tidyK ti8_33 [] 2  (seqK (kLoop (kC (ck8 n (d + 7)) (sp8 n) n c8_32) ti8_33 [] m) K)) from by kernel_rfl).trans ((tS8_2 n d a1 a2 a3 a4 a5 a6 a7 a8 a9 a10 a11 _).trans (by simp only [seqK_nor, ih, seqK_exit, seqK_ret]; kernel_rfl))

def S8_4 {ρ : Type} (n : Nat) (a1 : Int) (a2 : Int) (a3 : Int) (a4 : Int) (a5 : Bool) (k0 : Option ρ) : Option ρ :=
  k0

theorem tS8_4 {ρ : Type} (n d : Nat) (a1 : Int) (a2 : Int) (a3 : Int) (a4 : Int) (a5 : Bool) (K : Out → List KB → Option ρ) :
    (blockK 0 (seqK (kC (ck8 n (d + 7)) (sp8 n) n c8_40) (endK [(.tmp 8 none)] 0 K))) .ret [vN, vN, vN, vN, vN, vN, vN, vN, (.d (.bool false)), vN, vN, vN, vN, vN, vN, vN, vN, vN, vN, vN, vN, vN, vN, vN, vN, vN, vN, vN, vN, vN, vN, vN, vN, vN, vN, vN, vN, vN, vN, vN, vN, vN, vN, vN, vN, vN, vN, vN, vN, vN, vN, vN, vN, vN, vN, vN, vN, vN, vN, vN, vN, vN, vN, vN, vN, vN, vN, vN, vN, vN] [(.cells [(.d (.int .i64 a1)), (.d (.int .i64 a2)), (.d (.bool false))]), (.cells [(.d (.int .i64 a3)), (.d (.int .i64 a4)), (.d (.bool a5))])] =
    S8_4 n a1 a2 a3 a4 a5 (K (.ret (.d (.bool false))) []) := by kernel_rfl

def S8_5 {ρ : Type} (n : Nat) (a1 : Bool) (a2 : Int) (a3 : Int) (a4 : Int) (a5 : Int) (a6 : Int) (a7 : Int) (a8 : Int) (a9 : Int) (a10 : Int) (a11 : Bool) (k0 : Bool → Option ρ) : Option ρ :=
  (F14 n [(.agg [(.int .i64 a7), (.int .i64 a8), (.bool false)]), (.agg [(.int .i64 a9), (.int .i64 a10), (.bool a11)])]).bind fun x1 => gT x1 fun x2 => gC x2 fun x3 x4 => gI .i64 x3 fun x5 => gC x4 fun x6 x7 => gI .i64 x6 fun x8 => gE x7 (cond a1 (cond (x8 == (0 : Int)) (k0 (x5 == (IntKind.i64.wrap ((IntKind.i64.wrap ((IntKind.i64.wrap ((230 : Int) * a2)) * a3)) * a4)))) (k0 false)) (k0 false))

theorem tS8_5 {ρ : Type} (n d : Nat) (a1 : Bool) (a2 : Int) (a3 : Int) (a4 : Int) (a5 : Int) (a6 : Int) (a7 : Int) (a8 : Int) (a9 : Int) (a10 : Int) (a11 : Bool) (K : Out → List KB → Option ρ) :
    (blockK 0 (seqK (kC (ck8 n (d + 7)) (sp8 n) n c8_40) (endK [(.tmp 8 none)] 0 K))) (.exit 0) [vN, vN, vN, vN, (.ptr 0 0), vN, vN, vN, vN, (.d (.bool a1)), (.d (.int .i64 a2)), (.d (.int .i64 a3)), (.d (.int .i64 a4)), (.ptr 1 0), vN, vN, vN, vN, vN, vN, vN, vN, vN, vN, vN, vN, vN, vN, vN, vN, vN, vN, vN, vN, vN, (.d (.int .i64 a5)), (.d (.int .i64 a6)), vN, vN, vN, vN, vN, vN, vN, vN, vN, vN, vN, vN, vN, vN, vN, vN, vN, vN, vN, vN, vN, vN, vN, vN, vN, vN, vN, vN, vN, vN, vN, vN, vN] [(.cells [(.d (.int .i64 a7)), (.d (.int .i64 a8)), (.d (.bool false))]), (.cells [(.d (.int .i64 a9)), (.d (.int .i64 a10)), (.d (.bool a11))])] =
    S8_5 n a1 a2 a3 a4 a5 a6 a7 a8 a9 a10 a11 (fun (q1 : Bool) => K (.ret (.d (.bool q1))) []) := by kernel_rfl

def S8_1 {ρ : Type} (n : Nat) (a1 : Int) (a2 : Int) (a3 : Bool) (a4 : Int) (a5 : Int) (a6 : Int) (k0 : Bool → Option ρ) : Option ρ :=
  (F9 n []).bind fun x1 => gB x1 fun x2 => (F16 n [(.agg [(.int .i64 a1), (.int .i64 a2), (.bool false)]), (.lst 2 0 [] true)]).bind fun x3 => gB x3 fun x4 => cond (!x4) (k0 x2) (L8_3 n n x2 (Int.tmod (IntKind.i64.wrap a4) (81 : Int)) (Int.tmod (IntKind.i64.wrap a5) (4 : Int)) (Int.tmod (IntKind.i64.wrap a6) (4 : Int)) (IntKind.i64.wrap ((360 : Int) * (Int.tmod (IntKind.i64.wrap a6) (4 : Int)))) (0 : Int) a1 a2 a1 a2 false (fun x5 x6 x7 => S8_4 n a1 a2 x5 x6 x7 (k0 false)) (fun x8 x9 x10 x11 => S8_5 n x2 (Int.tmod (IntKind.i64.wrap a4) (81 : Int)) (Int.tmod (IntKind.i64.wrap a5) (4 : Int)) (Int.tmod (IntKind.i64.wrap a6) (4 : Int)) (IntKind.i64.wrap ((360 : Int) * (Int.tmod (IntKind.i64.wrap a6) (4 : Int)))) x8 a1 a2 x9 x10 x11 (fun x12 => k0 x12)))

theorem hS8_1 {ρ : Type} (n d : Nat) (a1 : Int) (a2 : Int) (a3 : Bool) (a4 : Int) (a5 : Int) (a6 : Int) (K : Out → List KB → Option ρ) :
    kC (ck8 n (d + 7)) (sp8 n) n c8_47 [(.d (.agg [(.int .i64 a1), (.int .i64 a2), (.bool a3)])), (.d (.int .u8 a4)), (.d (.int .u8 a5)), (.d (.int .u8 a6)), vU, vU, vU, vU, vU, vU, vU, vU, vU, vU, vU, vU, vU, vU, vU, vU, vU, vU, vU, vU, vU, vU, vU, vU, vU, vU, vU, vU, vU, vU, vU, vU, vU, vU, vU, vU, vU, vU, vU, vU, vU, vU, vU, vU, vU, vU, vU, vU, vU, vU, vU, vU, vU, vU, vU, vU, vU, vU, vU, vU, vU, vU, vU, vU, vU, vU] [] (endK [(.tmp 8 none)] 0 K) =
    (F9 n []).bind fun x1 => gB x1 fun x2 => (F16 n [(.agg [(.int .i64 a1), (.int .i64 a2), (.bool false)]), (.lst 2 0 [] true)]).bind fun x3 => gB x3 fun x4 => cond (!x4) (K (.ret (.d (.bool x2))) []) (kLoop (kC (ck8 n (d + 7)) (sp8 n) n c8_32) ti8_33 [] n [vN, vN, vN, vN, (.ptr 0 0), vN, vN, vN, vN, (.d (.bool x2)), (.d (.int .i64 (Int.tmod (IntKind.i64.wrap a4) (81 : Int)))), (.d (.int .i64 (Int.tmod (IntKind.i64.wrap a5) (4 : Int)))), (.d (.int .i64 (Int.tmod (IntKind.i64.wrap a6) (4 : Int)))), (.ptr 1 0), vN, vN, vN, vN, vN, vN, vN, vN, vN, vN, vN, vN, vN, vN, vN, vN, vN, vN, vN, vN, vN, (.d (.int .i64 (IntKind.i64.wrap ((360 : Int) * (Int.tmod (IntKind.i64.wrap a6) (4 : Int)))))), (.d (.int .i64 (0))), vN, vN, vN, vN, vN, vN, vN, vN, vN, vN, vN, vN, vN, vN, vN, vN, vN, vN, vN, vN, vN, vN, vN, vN, vN, vN, vN, vN, vN, vN, vN, vN, vN] [(.cells [(.d (.int .i64 a1)), (.d (.int .i64 a2)), (.d (.bool false))]), (.cells [(.d (.int .i64 a1)), (.d (.int .i64 a2)), (.d (.bool false))])] (blockK 0 (seqK (kC (ck8 n (d + 7)) (sp8 n) n c8_40) (endK [(.tmp 8 none)] 0 K)))) := by kernel_rfl

theorem tS8_1 {ρ : Type} (n d : Nat) (a1 : Int) (a2 : Int) (a3 : Bool) (a4 : Int) (a5 : Int) (a6 : Int) (K : Out → List KB → Option ρ) :
    kC (ck8 n (d + 7)) (sp8 n) n c8_47 [(.d (.agg [(.int .i64 a1), (.int .i64 a2), (.bool a3)])), (.d (.int .u8 a4)), (.d (.int .u8 a5)), (.d (.int .u8 a6)), vU, vU, vU, vU, vU, vU, vU, vU, vU, vU, vU, vU, vU, vU, vU, vU, vU, vU, vU, vU, vU, vU, vU, vU, vU, vU, vU, vU, vU, vU, vU, vU, vU, vU, vU, vU, vU, vU, vU, vU, vU, vU, vU, vU, vU, vU, vU, vU, vU, vU, vU, vU, vU, vU, vU, vU, vU, vU, vU, vU, vU, vU, vU, vU, vU, vU] [] (endK [(.tmp 8 none)] 0 K) =
    S8_1 n a1 a2 a3 a4 a5 a6 (fun (q1 : Bool) => K (.ret (.d (.bool q1))) []) :=
  (hS8_1 n d a1 a2 a3 a4 a5 a6 K).trans (by simp only [tL8_3, tS8_4, tS8_5]; kernel_rfl)

theorem tF8 {ρ : Type} (n d : Nat) (b1 : Int) (b2 : Int) (b3 : Bool) (b4 : Int) (b5 : Int) (b6 : Int) (K : Out → List KB → Option ρ) :
    ck8 n (d + 8) 8 [.d (.agg [(.int .i64 b1), (.int .i64 b2), (.bool b3)]), .d (.int .u8 b4), .d (.int .u8 b5), .d (.int .u8 b6)] [] K =
    S8_1 n b1 b2 b3 b4 b5 b6 (fun (q1 : Bool) => K (.ret (.d (.bool q1))) []) :=
  (show _ = kC (ck8 n (d + 7)) (sp8 n) n c8_47 [(.d (.agg [(.int .i64 b1), (.int .i64 b2), (.bool b3)])), (.d (.int .u8 b4)), (.d (.int .u8 b5)), (.d (.int .u8 b6)), vU, vU, vU, vU, vU, vU, vU, vU, vU, vU, vU, vU, vU, vU, vU, vU, vU, vU, vU, vU, vU, vU, vU, vU, vU, vU, vU, vU, vU, vU, vU, vU, vU, vU, vU, vU, vU, vU, vU, vU, vU, vU, vU, vU, vU, vU, vU, vU, vU, vU, vU, vU, vU, vU, vU, vU, vU, vU, vU, vU, vU, vU, vU, vU, vU, vU] [] (endK [(.tmp 8 none)] 0 K) from by kernel_rfl).trans (tS8_1 n d b1 b2 b3 b4 b5 b6 K)

def F8 (n : Nat) : Ev.Fn
  | [(.agg [(.int .i64 b1), (.int .i64 b2), (.bool b3)]), (.int .u8 b4), (.int .u8 b5), (.int .u8 b6)] => S8_1 n b1 b2 b3 b4 b5 b6 (fun (q1 : Bool) => some (.bool q1))
  | _ => none

theorem p8 (n : Nat) : Pure Try.prog G0 8 (F8 n) := by
  refine pure_k bodyOK (spok8 n) (mkSp_S _) mix (callable_of (by kernel_rfl)) n 8 ?_
  intro ds x h
  unfold F8 at h
  split at h
  · rename_i b1 b2 b3 b4 b5 b6
    rw [← h]
    exact (tF8 n 0 b1 b2 b3 b4 b5 b6 fin).trans (by kernel_rfl)
  · cases h

end Go.Proofs.Ytgkjmdbjncnlpaa
