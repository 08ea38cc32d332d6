/- Functions of plain data, and that the program computes them: printed by a program of mine. -/
import Derived.Test.YtgkjmdbjncnlpaaDoorKa
namespace Go.Proofs.YtgkjmdbjncnlpaaDoor
open Go.Ev
set_option maxRecDepth 100000
set_option maxHeartbeats 4000000
set_option linter.unusedVariables false
set_option linter.unusedSimpArgs false

def spl24 (n : Nat) : List (FuncId × Ev.Fn) := []

def sp24 (n : Nat) : SpecT := mkSp isS (spl24 n)

theorem spok24 (n : Nat) : SpecOK Tryd.prog YtgkjmdbjncnlpaaDoor.GL (sp24 n) := mkSp_ok callS all_nil

def ck24 {ρ : Type} (n d : Nat) : CallK ρ := kF body (sp24 n) n d

def S24_1 {ρ : Type} (n : Nat) (a1 : Int) (k0 : Bool → Option ρ) : Option ρ :=
  cond (decide (a1 ≥ (97 : Int))) (k0 (decide (a1 ≤ (122 : Int)))) (k0 false)

theorem tS24_1 {ρ : Type} (n d : Nat) (a1 : Int) (K : Out → List KB → Option ρ) :
    kC (ck24 n (d + 7)) (sp24 n) n c24_4 [(.d (.int .u8 a1)), vU, vU, vU, vU, vU, vU, vU, vU] [] (endK [(.tmp 2 none)] 0 K) =
    S24_1 n a1 (fun (q1 : Bool) => K (.ret (.d (.bool q1))) []) := by kernel_rfl

theorem tF24 {ρ : Type} (n d : Nat) (b1 : Int) (K : Out → List KB → Option ρ) :
    ck24 n (d + 8) 24 [.d (.int .u8 b1)] [] K =
    S24_1 n b1 (fun (q1 : Bool) => K (.ret (.d (.bool q1))) []) :=
  (show _ = kC (ck24 n (d + 7)) (sp24 n) n c24_4 [(.d (.int .u8 b1)), vU, vU, vU, vU, vU, vU, vU, vU] [] (endK [(.tmp 2 none)] 0 K) from by kernel_rfl).trans (tS24_1 n d b1 K)

def F24 (n : Nat) : Ev.Fn
  | [(.int .u8 b1)] => S24_1 n b1 (fun (q1 : Bool) => some (.bool q1))
  | _ => none

theorem p24 (n : Nat) : Pure Tryd.prog YtgkjmdbjncnlpaaDoor.GL 24 (F24 n) := by
  refine pure_k bodyOK (spok24 n) (mkSp_S _) mix (callable_of (by kernel_rfl)) n 8 ?_
  intro ds x h
  unfold F24 at h
  split at h
  · rename_i b1
    rw [← h]
    exact (tF24 n 0 b1 fin).trans (by kernel_rfl)
  · cases h

def spl25 (n : Nat) : List (FuncId × Ev.Fn) := []

def sp25 (n : Nat) : SpecT := mkSp isS (spl25 n)

theorem spok25 (n : Nat) : SpecOK Tryd.prog YtgkjmdbjncnlpaaDoor.GL (sp25 n) := mkSp_ok callS all_nil

def ck25 {ρ : Type} (n d : Nat) : CallK ρ := kF body (sp25 n) n d

def S25_1 {ρ : Type} (n : Nat) (a1 : Int) (k0 : Bool → Option ρ) : Option ρ :=
  cond (decide (a1 ≥ (48 : Int))) (k0 (decide (a1 ≤ (57 : Int)))) (k0 false)

theorem tS25_1 {ρ : Type} (n d : Nat) (a1 : Int) (K : Out → List KB → Option ρ) :
    kC (ck25 n (d + 7)) (sp25 n) n c25_4 [(.d (.int .u8 a1)), vU, vU, vU, vU, vU, vU, vU, vU] [] (endK [(.tmp 2 none)] 0 K) =
    S25_1 n a1 (fun (q1 : Bool) => K (.ret (.d (.bool q1))) []) := by kernel_rfl

theorem tF25 {ρ : Type} (n d : Nat) (b1 : Int) (K : Out → List KB → Option ρ) :
    ck25 n (d + 8) 25 [.d (.int .u8 b1)] [] K =
    S25_1 n b1 (fun (q1 : Bool) => K (.ret (.d (.bool q1))) []) :=
  (show _ = kC (ck25 n (d + 7)) (sp25 n) n c25_4 [(.d (.int .u8 b1)), vU, vU, vU, vU, vU, vU, vU, vU] [] (endK [(.tmp 2 none)] 0 K) from by kernel_rfl).trans (tS25_1 n d b1 K)

def F25 (n : Nat) : Ev.Fn
  | [(.int .u8 b1)] => S25_1 n b1 (fun (q1 : Bool) => some (.bool q1))
  | _ => none

theorem p25 (n : Nat) : Pure Tryd.prog YtgkjmdbjncnlpaaDoor.GL 25 (F25 n) := by
  refine pure_k bodyOK (spok25 n) (mkSp_S _) mix (callable_of (by kernel_rfl)) n 8 ?_
  intro ds x h
  unfold F25 at h
  split at h
  · rename_i b1
    rw [← h]
    exact (tF25 n 0 b1 fin).trans (by kernel_rfl)
  · cases h

def spl18 (n : Nat) : List (FuncId × Ev.Fn) := []

def sp18 (n : Nat) : SpecT := mkSp isS (spl18 n)

theorem spok18 (n : Nat) : SpecOK Tryd.prog YtgkjmdbjncnlpaaDoor.GL (sp18 n) := mkSp_ok callS all_nil

def ck18 {ρ : Type} (n d : Nat) : CallK ρ := kF body (sp18 n) n d

def S18_1 {ρ : Type} (n : Nat) (a1 : Int) (k0 : Int → Option ρ) : Option ρ :=
  cond (decide (a1 ≥ (97 : Int))) (cond (decide (a1 ≤ (122 : Int))) (k0 (1 : Int)) (cond (decide (a1 ≥ (48 : Int))) (cond (decide (a1 ≤ (57 : Int))) (k0 (2 : Int)) (cond (a1 == (59 : Int)) (k0 (3 : Int)) (cond (a1 == (123 : Int)) (k0 (3 : Int)) (cond (a1 == (125 : Int)) (k0 (3 : Int)) (cond (a1 == (32 : Int)) (k0 (4 : Int)) (cond (a1 == (9 : Int)) (k0 (4 : Int)) (cond (a1 == (10 : Int)) (k0 (4 : Int)) (cond (a1 == (35 : Int)) (k0 (5 : Int)) (k0 (0 : Int)))))))))) (cond (a1 == (59 : Int)) (k0 (3 : Int)) (cond (a1 == (123 : Int)) (k0 (3 : Int)) (cond (a1 == (125 : Int)) (k0 (3 : Int)) (cond (a1 == (32 : Int)) (k0 (4 : Int)) (cond (a1 == (9 : Int)) (k0 (4 : Int)) (cond (a1 == (10 : Int)) (k0 (4 : Int)) (cond (a1 == (35 : Int)) (k0 (5 : Int)) (k0 (0 : Int))))))))))) (cond (decide (a1 ≥ (48 : Int))) (cond (decide (a1 ≤ (57 : Int))) (k0 (2 : Int)) (cond (a1 == (59 : Int)) (k0 (3 : Int)) (cond (a1 == (123 : Int)) (k0 (3 : Int)) (cond (a1 == (125 : Int)) (k0 (3 : Int)) (cond (a1 == (32 : Int)) (k0 (4 : Int)) (cond (a1 == (9 : Int)) (k0 (4 : Int)) (cond (a1 == (10 : Int)) (k0 (4 : Int)) (cond (a1 == (35 : Int)) (k0 (5 : Int)) (k0 (0 : Int)))))))))) (cond (a1 == (59 : Int)) (k0 (3 : Int)) (cond (a1 == (123 : Int)) (k0 (3 : Int)) (cond (a1 == (125 : Int)) (k0 (3 : Int)) (cond (a1 == (32 : Int)) (k0 (4 : Int)) (cond (a1 == (9 : Int)) (k0 (4 : Int)) (cond (a1 == (10 : Int)) (k0 (4 : Int)) (cond (a1 == (35 : Int)) (k0 (5 : Int)) (k0 (0 : Int))))))))))

theorem tS18_1 {ρ : Type} (n d : Nat) (a1 : Int) (K : Out → List KB → Option ρ) :
    kC (ck18 n (d + 7)) (sp18 n) n c18_37 [(.d (.int .u8 a1)), vU, vU, vU, vU, vU, vU, vU, vU, vU, vU, vU, vU, vU, vU, vU, vU, vU, vU, vU, vU, vU, vU, vU, vU, vU, vU, vU, vU, vU, vU, vU, vU, vU, vU, vU, vU, vU, vU, vU, vU, vU] [] (endK [(.tmp 2 none)] 0 K) =
    S18_1 n a1 (fun (q1 : Int) => K (.ret (.d (.int .i64 q1))) []) := by kernel_rfl

theorem tF18 {ρ : Type} (n d : Nat) (b1 : Int) (K : Out → List KB → Option ρ) :
    ck18 n (d + 8) 18 [.d (.int .u8 b1)] [] K =
    S18_1 n b1 (fun (q1 : Int) => K (.ret (.d (.int .i64 q1))) []) :=
  (show _ = kC (ck18 n (d + 7)) (sp18 n) n c18_37 [(.d (.int .u8 b1)), vU, vU, vU, vU, vU, vU, vU, vU, vU, vU, vU, vU, vU, vU, vU, vU, vU, vU, vU, vU, vU, vU, vU, vU, vU, vU, vU, vU, vU, vU, vU, vU, vU, vU, vU, vU, vU, vU, vU, vU, vU] [] (endK [(.tmp 2 none)] 0 K) from by kernel_rfl).trans (tS18_1 n d b1 K)

def F18 (n : Nat) : Ev.Fn
  | [(.int .u8 b1)] => S18_1 n b1 (fun (q1 : Int) => some (.int .i64 q1))
  | _ => none

theorem p18 (n : Nat) : Pure Tryd.prog YtgkjmdbjncnlpaaDoor.GL 18 (F18 n) := by
  refine pure_k bodyOK (spok18 n) (mkSp_S _) mix (callable_of (by kernel_rfl)) n 8 ?_
  intro ds x h
  unfold F18 at h
  split at h
  · rename_i b1
    rw [← h]
    exact (tF18 n 0 b1 fin).trans (by kernel_rfl)
  · cases h

def spl14 (n : Nat) : List (FuncId × Ev.Fn) := []

def sp14 (n : Nat) : SpecT := mkSp isS (spl14 n)

theorem spok14 (n : Nat) : SpecOK Tryd.prog YtgkjmdbjncnlpaaDoor.GL (sp14 n) := mkSp_ok callS all_nil

def ck14 {ρ : Type} (n d : Nat) : CallK ρ := kF body (sp14 n) n d

def S14_2 {ρ : Type} (n : Nat) (a1 : List UInt8) (a2 : Int) (a3 : Bool) (k0 : Option ρ) (k1 : Int → Bool → Option ρ) (k2 : Option ρ) : Option ρ :=
  cond (decide (a2 < (List.length a1 : Int))) (ass (decide ((0 : Int) ≤ a2)) (gU a1 (Int.toNat a2) fun x1 => cond ((UInt8.toNat x1 : Int) == (35 : Int)) (cond ((UInt8.toNat x1 : Int) == (10 : Int)) (cond ((UInt8.toNat x1 : Int) != (32 : Int)) (cond ((UInt8.toNat x1 : Int) != (9 : Int)) (cond ((UInt8.toNat x1 : Int) != (10 : Int)) (k0) (k1 (IntKind.i64.wrap (a2 + (1 : Int))) false)) (k1 (IntKind.i64.wrap (a2 + (1 : Int))) false)) (k1 (IntKind.i64.wrap (a2 + (1 : Int))) false)) (k1 (IntKind.i64.wrap (a2 + (1 : Int))) true)) (cond ((UInt8.toNat x1 : Int) == (10 : Int)) (cond ((UInt8.toNat x1 : Int) != (32 : Int)) (cond ((UInt8.toNat x1 : Int) != (9 : Int)) (cond ((UInt8.toNat x1 : Int) != (10 : Int)) (k0) (k1 (IntKind.i64.wrap (a2 + (1 : Int))) false)) (k1 (IntKind.i64.wrap (a2 + (1 : Int))) false)) (k1 (IntKind.i64.wrap (a2 + (1 : Int))) false)) (cond (!a3) (cond ((UInt8.toNat x1 : Int) != (32 : Int)) (cond ((UInt8.toNat x1 : Int) != (9 : Int)) (cond ((UInt8.toNat x1 : Int) != (10 : Int)) (k0) (k1 (IntKind.i64.wrap (a2 + (1 : Int))) a3)) (k1 (IntKind.i64.wrap (a2 + (1 : Int))) a3)) (k1 (IntKind.i64.wrap (a2 + (1 : Int))) a3)) (k1 (IntKind.i64.wrap (a2 + (1 : Int))) a3))))) (k2)

theorem tS14_2 {ρ : Type} (n d : Nat) (a1 : List UInt8) (a2 : Int) (a3 : Bool) (K : Ex → List V → List KB → Option ρ) :
    kC (ck14 n (d + 7)) (sp14 n) n c14_31 [(.d (.str a1)), (.d (.int .i64 a2)), vN, vN, vN, (.d (.bool a3)), vN, vN, vN, vN, vN, vN, vN, vN, vN, vN, vN, vN, vN, vN, vN, vN, vN, vN, vN, vN, vN, vN, vN, vN, vN, vN, vN, vN, vN, vN] [] (tidyK ti14_32 [] 0 K) =
    S14_2 n a1 a2 a3 (K .ret [vN, vN, vN, vN, (.d (.int .i64 a2)), vN, vN, vN, vN, vN, vN, vN, vN, vN, vN, vN, vN, vN, vN, vN, vN, vN, vN, vN, vN, vN, vN, vN, vN, vN, vN, vN, vN, vN, vN, vN] []) (fun (q1 : Int) (q2 : Bool) => K .nor [(.d (.str a1)), (.d (.int .i64 q1)), vN, vN, vN, (.d (.bool q2)), vN, vN, vN, vN, vN, vN, vN, vN, vN, vN, vN, vN, vN, vN, vN, vN, vN, vN, vN, vN, vN, vN, vN, vN, vN, vN, vN, vN, vN, vN] []) (K (.exit 0) [(.d (.str a1)), (.d (.int .i64 a2)), vN, vN, vN, (.d (.bool a3)), vN, vN, vN, vN, vN, vN, vN, vN, vN, vN, vN, vN, vN, vN, vN, vN, vN, vN, vN, vN, vN, vN, vN, vN, vN, vN, vN, vN, vN, vN] []) := by kernel_rfl

def L14_3 {ρ : Type} (n : Nat) : Nat → (List UInt8) → Int → Bool → (Int → Option ρ) → (Int → Bool → Option ρ) → Option ρ
  | 0, _, _, _, _, _ => none
  | m + 1, a1, a2, a3, k0, k1 => S14_2 n a1 a2 a3 (k0 a2) (fun x1 x2 => L14_3 n m a1 x1 x2 k0 k1) (k1 a2 a3)

theorem tL14_3 {ρ : Type} (n d : Nat) (K : Ex → List V → List KB → Option ρ) : ∀ (m : Nat) (a1 : List UInt8) (a2 : Int) (a3 : Bool),
    kLoop (kC (ck14 n (d + 7)) (sp14 n) n c14_31) ti14_32 [] m [(.d (.str a1)), (.d (.int .i64 a2)), vN, vN, vN, (.d (.bool a3)), vN, vN, vN, vN, vN, vN, vN, vN, vN, vN, vN, vN, vN, vN, vN, vN, vN, vN, vN, vN, vN, vN, vN, vN, vN, vN, vN, vN, vN, vN] [] K =
    L14_3 n m a1 a2 a3 (fun (q1 : Int) => K .ret [vN, vN, vN, vN, (.d (.int .i64 q1)), vN, vN, vN, vN, vN, vN, vN, vN, vN, vN, vN, vN, vN, vN, vN, vN, vN, vN, vN, vN, vN, vN, vN, vN, vN, vN, vN, vN, vN, vN, vN] []) (fun (q1 : Int) (q2 : Bool) => K (.exit 0) [(.d (.str a1)), (.d (.int .i64 q1)), vN, vN, vN, (.d (.bool q2)), vN, vN, vN, vN, vN, vN, vN, vN, vN, vN, vN, vN, vN, vN, vN, vN, vN, vN, vN, vN, vN, vN, vN, vN, vN, vN, vN, vN, vN, vN] []) := by
  intro m
  induction m with
  | zero => intros; kernel_rfl
  | succ m ih =>
    intro a1 a2 a3
    exact (show _ = kC (ck14 n (d + 7)) (sp14 n) n c14_31 [(.d (.str a1)), (.d (.int .i64 a2)), vN, vN, vN, (.d (.bool a3)), vN, vN, vN, vN, vN, vN, vN, vN, vN, vN, vN, vN, vN, vN, vN, vN, vN, vN, vN, vN, vN, vN, vN, vN, vN, vN, vN, vN, vN, vN] [] (tidyK ti14_32 [] 0  (seqK (kLoop (kC (ck14 n (d + 7)) (sp14 n) n c14_31) ti14_32 [] m) K)) from by kernel_rfl).trans ((tS14_2 n d a1 a2 a3 _).trans (by simp only [seqK_nor, ih, seqK_exit, seqK_ret]; kernel_rfl))

def S14_4 {ρ : Type} (n : Nat) (a1 : Int) (k0 : Option ρ) : Option ρ :=
  k0

theorem tS14_4 {ρ : Type} (n d : Nat) (a1 : Int) (K : Out → List KB → Option ρ) :
    (blockK 0 (seqK (kC (ck14 n (d + 7)) (sp14 n) n c14_36) (endK [(.tmp 4 none)] 0 K))) .ret [vN, vN, vN, vN, (.d (.int .i64 a1)), vN, vN, vN, vN, vN, vN, vN, vN, vN, vN, vN, vN, vN, vN, vN, vN, vN, vN, vN, vN, vN, vN, vN, vN, vN, vN, vN, vN, vN, vN, vN] [] =
    S14_4 n a1 (K (.ret (.d (.int .i64 a1))) []) := by kernel_rfl

def S14_5 {ρ : Type} (n : Nat) (a1 : List UInt8) (a2 : Int) (a3 : Bool) (k0 : Option ρ) : Option ρ :=
  k0

theorem tS14_5 {ρ : Type} (n d : Nat) (a1 : List UInt8) (a2 : Int) (a3 : Bool) (K : Out → List KB → Option ρ) :
    (blockK 0 (seqK (kC (ck14 n (d + 7)) (sp14 n) n c14_36) (endK [(.tmp 4 none)] 0 K))) (.exit 0) [(.d (.str a1)), (.d (.int .i64 a2)), vN, vN, vN, (.d (.bool a3)), vN, vN, vN, vN, vN, vN, vN, vN, vN, vN, vN, vN, vN, vN, vN, vN, vN, vN, vN, vN, vN, vN, vN, vN, vN, vN, vN, vN, vN, vN] [] =
    S14_5 n a1 a2 a3 (K (.ret (.d (.int .i64 a2))) []) := by kernel_rfl

def S14_1 {ρ : Type} (n : Nat) (a1 : List UInt8) (a2 : Int) (k0 : Int → Option ρ) : Option ρ :=
  L14_3 n n a1 a2 false (fun x1 => S14_4 n x1 (k0 x1)) (fun x2 x3 => S14_5 n a1 x2 x3 (k0 x2))

theorem hS14_1 {ρ : Type} (n d : Nat) (a1 : List UInt8) (a2 : Int) (K : Out → List KB → Option ρ) :
    kC (ck14 n (d + 7)) (sp14 n) n c14_39 [(.d (.str a1)), (.d (.int .i64 a2)), vU, vU, vU, vU, vU, vU, vU, vU, vU, vU, vU, vU, vU, vU, vU, vU, vU, vU, vU, vU, vU, vU, vU, vU, vU, vU, vU, vU, vU, vU, vU, vU, vU, vU] [] (endK [(.tmp 4 none)] 0 K) =
    kLoop (kC (ck14 n (d + 7)) (sp14 n) n c14_31) ti14_32 [] n [(.d (.str a1)), (.d (.int .i64 a2)), vN, vN, vN, (.d (.bool false)), vN, vN, vN, vN, vN, vN, vN, vN, vN, vN, vN, vN, vN, vN, vN, vN, vN, vN, vN, vN, vN, vN, vN, vN, vN, vN, vN, vN, vN, vN] [] (blockK 0 (seqK (kC (ck14 n (d + 7)) (sp14 n) n c14_36) (endK [(.tmp 4 none)] 0 K))) := by kernel_rfl

theorem tS14_1 {ρ : Type} (n d : Nat) (a1 : List UInt8) (a2 : Int) (K : Out → List KB → Option ρ) :
    kC (ck14 n (d + 7)) (sp14 n) n c14_39 [(.d (.str a1)), (.d (.int .i64 a2)), vU, vU, vU, vU, vU, vU, vU, vU, vU, vU, vU, vU, vU, vU, vU, vU, vU, vU, vU, vU, vU, vU, vU, vU, vU, vU, vU, vU, vU, vU, vU, vU, vU, vU] [] (endK [(.tmp 4 none)] 0 K) =
    S14_1 n a1 a2 (fun (q1 : Int) => K (.ret (.d (.int .i64 q1))) []) :=
  (hS14_1 n d a1 a2 K).trans (by simp only [tL14_3, tS14_4, tS14_5]; kernel_rfl)

theorem tF14 {ρ : Type} (n d : Nat) (b1 : List UInt8) (b2 : Int) (K : Out → List KB → Option ρ) :
    ck14 n (d + 8) 14 [.d (.str b1), .d (.int .i64 b2)] [] K =
    S14_1 n b1 b2 (fun (q1 : Int) => K (.ret (.d (.int .i64 q1))) []) :=
  (show _ = kC (ck14 n (d + 7)) (sp14 n) n c14_39 [(.d (.str b1)), (.d (.int .i64 b2)), vU, vU, vU, vU, vU, vU, vU, vU, vU, vU, vU, vU, vU, vU, vU, vU, vU, vU, vU, vU, vU, vU, vU, vU, vU, vU, vU, vU, vU, vU, vU, vU, vU, vU] [] (endK [(.tmp 4 none)] 0 K) from by kernel_rfl).trans (tS14_1 n d b1 b2 K)

def F14 (n : Nat) : Ev.Fn
  | [(.str b1), (.int .i64 b2)] => S14_1 n b1 b2 (fun (q1 : Int) => some (.int .i64 q1))
  | _ => none

theorem p14 (n : Nat) : Pure Tryd.prog YtgkjmdbjncnlpaaDoor.GL 14 (F14 n) := by
  refine pure_k bodyOK (spok14 n) (mkSp_S _) mix (callable_of (by kernel_rfl)) n 8 ?_
  intro ds x h
  unfold F14 at h
  split at h
  · rename_i b1 b2
    rw [← h]
    exact (tF14 n 0 b1 b2 fin).trans (by kernel_rfl)
  · cases h

def spl16 (n : Nat) : List (FuncId × Ev.Fn) := [(24, F24 n), (25, F25 n)]

def sp16 (n : Nat) : SpecT := mkSp isS (spl16 n)

theorem spok16 (n : Nat) : SpecOK Tryd.prog YtgkjmdbjncnlpaaDoor.GL (sp16 n) := mkSp_ok callS (all_cons (p24 n) (all_cons (p25 n) all_nil))

def ck16 {ρ : Type} (n d : Nat) : CallK ρ := kF body (sp16 n) n d

def S16_2 {ρ : Type} (n : Nat) (a1 : List UInt8) (a2 : Int) (k0 : Int → Option ρ) (k1 : Option ρ) : Option ρ :=
  cond (decide (a2 < (List.length a1 : Int))) (ass (decide ((0 : Int) ≤ a2)) (gU a1 (Int.toNat a2) fun x1 => (F24 n [(.int .u8 (UInt8.toNat x1 : Int))]).bind fun x2 => gB x2 fun x3 => cond x3 (k0 (IntKind.i64.wrap (a2 + (1 : Int)))) (ass (decide ((0 : Int) ≤ a2)) (gU a1 (Int.toNat a2) fun x4 => (F25 n [(.int .u8 (UInt8.toNat x4 : Int))]).bind fun x5 => gB x5 fun x6 => cond x6 (k0 (IntKind.i64.wrap (a2 + (1 : Int)))) (ass (decide ((0 : Int) ≤ a2)) (gU a1 (Int.toNat a2) fun x7 => cond ((UInt8.toNat x7 : Int) == (95 : Int)) (k0 (IntKind.i64.wrap (a2 + (1 : Int)))) (k1))))))) (k1)

theorem tS16_2 {ρ : Type} (n d : Nat) (a1 : List UInt8) (a2 : Int) (K : Ex → List V → List KB → Option ρ) :
    kC (ck16 n (d + 7)) (sp16 n) n c16_25 [(.d (.str a1)), vN, vN, vN, vN, vN, (.d (.int .i64 a2)), vN, vN, vN, vN, vN, vN, vN, vN, vN, vN, vN, vN, vN, vN, vN, vN, vN, vN, vN, vN, vN, vN, vN, vN, vN, vN, vN, vN, vN, vN, vN, vN, vN, vN, vN, vN, vN, vN, vN, vN, vN, vN, vN, vN, vN, vN, vN, vN, vN, vN, vN, vN, vN, vN, vN, vN, vN, vN, vN, vN, vN, vN] [] (tidyK ti16_26 [] 0 K) =
    S16_2 n a1 a2 (fun (q1 : Int) => K .nor [(.d (.str a1)), vN, vN, vN, vN, vN, (.d (.int .i64 q1)), vN, vN, vN, vN, vN, vN, vN, vN, vN, vN, vN, vN, vN, vN, vN, vN, vN, vN, vN, vN, vN, vN, vN, vN, vN, vN, vN, vN, vN, vN, vN, vN, vN, vN, vN, vN, vN, vN, vN, vN, vN, vN, vN, vN, vN, vN, vN, vN, vN, vN, vN, vN, vN, vN, vN, vN, vN, vN, vN, vN, vN, vN] []) (K (.exit 0) [(.d (.str a1)), vN, vN, vN, vN, vN, (.d (.int .i64 a2)), vN, vN, vN, vN, vN, vN, vN, vN, vN, vN, vN, vN, vN, vN, vN, vN, vN, vN, vN, vN, vN, vN, vN, vN, vN, vN, vN, vN, vN, vN, vN, vN, vN, vN, vN, vN, vN, vN, vN, vN, vN, vN, vN, vN, vN, vN, vN, vN, vN, vN, vN, vN, vN, vN, vN, vN, vN, vN, vN, vN, vN, vN] []) := by kernel_rfl

def L16_3 {ρ : Type} (n : Nat) : Nat → (List UInt8) → Int → (Int → Option ρ) → Option ρ
  | 0, _, _, _ => none
  | m + 1, a1, a2, k0 => S16_2 n a1 a2 (fun x1 => L16_3 n m a1 x1 k0) (k0 a2)

theorem tL16_3 {ρ : Type} (n d : Nat) (K : Ex → List V → List KB → Option ρ) : ∀ (m : Nat) (a1 : List UInt8) (a2 : Int),
    kLoop (kC (ck16 n (d + 7)) (sp16 n) n c16_25) ti16_26 [] m [(.d (.str a1)), vN, vN, vN, vN, vN, (.d (.int .i64 a2)), vN, vN, vN, vN, vN, vN, vN, vN, vN, vN, vN, vN, vN, vN, vN, vN, vN, vN, vN, vN, vN, vN, vN, vN, vN, vN, vN, vN, vN, vN, vN, vN, vN, vN, vN, vN, vN, vN, vN, vN, vN, vN, vN, vN, vN, vN, vN, vN, vN, vN, vN, vN, vN, vN, vN, vN, vN, vN, vN, vN, vN, vN] [] K =
    L16_3 n m a1 a2 (fun (q1 : Int) => K (.exit 0) [(.d (.str a1)), vN, vN, vN, vN, vN, (.d (.int .i64 q1)), vN, vN, vN, vN, vN, vN, vN, vN, vN, vN, vN, vN, vN, vN, vN, vN, vN, vN, vN, vN, vN, vN, vN, vN, vN, vN, vN, vN, vN, vN, vN, vN, vN, vN, vN, vN, vN, vN, vN, vN, vN, vN, vN, vN, vN, vN, vN, vN, vN, vN, vN, vN, vN, vN, vN, vN, vN, vN, vN, vN, vN, vN] []) := by
  intro m
  induction m with
  | zero => intros; kernel_rfl
  | succ m ih =>
    intro a1 a2
    exact (show _ = kC (ck16 n (d + 7)) (sp16 n) n c16_25 [(.d (.str a1)), vN, vN, vN, vN, vN, (.d (.int .i64 a2)), vN, vN, vN, vN, vN, vN, vN, vN, vN, vN, vN, vN, vN, vN, vN, vN, vN, vN, vN, vN, vN, vN, vN, vN, vN, vN, vN, vN, vN, vN, vN, vN, vN, vN, vN, vN, vN, vN, vN, vN, vN, vN, vN, vN, vN, vN, vN, vN, vN, vN, vN, vN, vN, vN, vN, vN, vN, vN, vN, vN, vN, vN] [] (tidyK ti16_26 [] 0  (seqK (kLoop (kC (ck16 n (d + 7)) (sp16 n) n c16_25) ti16_26 [] m) K)) from by kernel_rfl).trans ((tS16_2 n d a1 a2 _).trans (by simp only [seqK_nor, ih, seqK_exit]; kernel_rfl))

def S16_4 {ρ : Type} (n : Nat) (a1 : List UInt8) (a2 : Int) (k0 : Option ρ) : Option ρ :=
  k0

theorem tS16_4 {ρ : Type} (n d : Nat) (a1 : List UInt8) (a2 : Int) (K : Out → List KB → Option ρ) :
    (blockK 0 (seqK (kC (ck16 n (d + 7)) (sp16 n) n c16_46) (endK [(.tmp 4 none)] 0 K))) (.exit 0) [(.d (.str a1)), vN, vN, vN, vN, vN, (.d (.int .i64 a2)), vN, vN, vN, vN, vN, vN, vN, vN, vN, vN, vN, vN, vN, vN, vN, vN, vN, vN, vN, vN, vN, vN, vN, vN, vN, vN, vN, vN, vN, vN, vN, vN, vN, vN, vN, vN, vN, vN, vN, vN, vN, vN, vN, vN, vN, vN, vN, vN, vN, vN, vN, vN, vN, vN, vN, vN, vN, vN, vN, vN, vN, vN] [] =
    S16_4 n a1 a2 (K (.ret (.d (.int .i64 a2))) []) := by kernel_rfl

def S16_5 {ρ : Type} (n : Nat) (a1 : List UInt8) (a2 : Int) (k0 : Int → Option ρ) (k1 : Option ρ) : Option ρ :=
  cond (decide (a2 < (List.length a1 : Int))) (ass (decide ((0 : Int) ≤ a2)) (gU a1 (Int.toNat a2) fun x1 => (F25 n [(.int .u8 (UInt8.toNat x1 : Int))]).bind fun x2 => gB x2 fun x3 => cond x3 (k0 (IntKind.i64.wrap (a2 + (1 : Int)))) (k1))) (k1)

theorem tS16_5 {ρ : Type} (n d : Nat) (a1 : List UInt8) (a2 : Int) (K : Ex → List V → List KB → Option ρ) :
    kC (ck16 n (d + 7)) (sp16 n) n c16_36 [(.d (.str a1)), vN, vN, vN, vN, vN, (.d (.int .i64 a2)), vN, vN, vN, vN, vN, vN, vN, vN, vN, vN, vN, vN, vN, vN, vN, vN, vN, vN, vN, vN, vN, vN, vN, vN, vN, vN, vN, vN, vN, vN, vN, vN, vN, vN, vN, vN, vN, vN, vN, vN, vN, vN, vN, vN, vN, vN, vN, vN, vN, vN, vN, vN, vN, vN, vN, vN, vN, vN, vN, vN, vN, vN] [] (tidyK ti16_37 [] 0 K) =
    S16_5 n a1 a2 (fun (q1 : Int) => K .nor [(.d (.str a1)), vN, vN, vN, vN, vN, (.d (.int .i64 q1)), vN, vN, vN, vN, vN, vN, vN, vN, vN, vN, vN, vN, vN, vN, vN, vN, vN, vN, vN, vN, vN, vN, vN, vN, vN, vN, vN, vN, vN, vN, vN, vN, vN, vN, vN, vN, vN, vN, vN, vN, vN, vN, vN, vN, vN, vN, vN, vN, vN, vN, vN, vN, vN, vN, vN, vN, vN, vN, vN, vN, vN, vN] []) (K (.exit 2) [(.d (.str a1)), vN, vN, vN, vN, vN, (.d (.int .i64 a2)), vN, vN, vN, vN, vN, vN, vN, vN, vN, vN, vN, vN, vN, vN, vN, vN, vN, vN, vN, vN, vN, vN, vN, vN, vN, vN, vN, vN, vN, vN, vN, vN, vN, vN, vN, vN, vN, vN, vN, vN, vN, vN, vN, vN, vN, vN, vN, vN, vN, vN, vN, vN, vN, vN, vN, vN, vN, vN, vN, vN, vN, vN] []) := by kernel_rfl

def L16_6 {ρ : Type} (n : Nat) : Nat → (List UInt8) → Int → (Int → Option ρ) → Option ρ
  | 0, _, _, _ => none
  | m + 1, a1, a2, k0 => S16_5 n a1 a2 (fun x1 => L16_6 n m a1 x1 k0) (k0 a2)

theorem tL16_6 {ρ : Type} (n d : Nat) (K : Ex → List V → List KB → Option ρ) : ∀ (m : Nat) (a1 : List UInt8) (a2 : Int),
    kLoop (kC (ck16 n (d + 7)) (sp16 n) n c16_36) ti16_37 [] m [(.d (.str a1)), vN, vN, vN, vN, vN, (.d (.int .i64 a2)), vN, vN, vN, vN, vN, vN, vN, vN, vN, vN, vN, vN, vN, vN, vN, vN, vN, vN, vN, vN, vN, vN, vN, vN, vN, vN, vN, vN, vN, vN, vN, vN, vN, vN, vN, vN, vN, vN, vN, vN, vN, vN, vN, vN, vN, vN, vN, vN, vN, vN, vN, vN, vN, vN, vN, vN, vN, vN, vN, vN, vN, vN] [] K =
    L16_6 n m a1 a2 (fun (q1 : Int) => K (.exit 2) [(.d (.str a1)), vN, vN, vN, vN, vN, (.d (.int .i64 q1)), vN, vN, vN, vN, vN, vN, vN, vN, vN, vN, vN, vN, vN, vN, vN, vN, vN, vN, vN, vN, vN, vN, vN, vN, vN, vN, vN, vN, vN, vN, vN, vN, vN, vN, vN, vN, vN, vN, vN, vN, vN, vN, vN, vN, vN, vN, vN, vN, vN, vN, vN, vN, vN, vN, vN, vN, vN, vN, vN, vN, vN, vN] []) := by
  intro m
  induction m with
  | zero => intros; kernel_rfl
  | succ m ih =>
    intro a1 a2
    exact (show _ = kC (ck16 n (d + 7)) (sp16 n) n c16_36 [(.d (.str a1)), vN, vN, vN, vN, vN, (.d (.int .i64 a2)), vN, vN, vN, vN, vN, vN, vN, vN, vN, vN, vN, vN, vN, vN, vN, vN, vN, vN, vN, vN, vN, vN, vN, vN, vN, vN, vN, vN, vN, vN, vN, vN, vN, vN, vN, vN, vN, vN, vN, vN, vN, vN, vN, vN, vN, vN, vN, vN, vN, vN, vN, vN, vN, vN, vN, vN, vN, vN, vN, vN, vN, vN] [] (tidyK ti16_37 [] 0  (seqK (kLoop (kC (ck16 n (d + 7)) (sp16 n) n c16_36) ti16_37 [] m) K)) from by kernel_rfl).trans ((tS16_5 n d a1 a2 _).trans (by simp only [seqK_nor, ih, seqK_exit]; kernel_rfl))

def S16_7 {ρ : Type} (n : Nat) (a1 : List UInt8) (a2 : Int) (k0 : Option ρ) : Option ρ :=
  k0

theorem tS16_7 {ρ : Type} (n d : Nat) (a1 : List UInt8) (a2 : Int) (K : Out → List KB → Option ρ) :
    (blockK 2 (seqK (kC (ck16 n (d + 7)) (sp16 n) n c16_46) (endK [(.tmp 4 none)] 0 K))) (.exit 2) [(.d (.str a1)), vN, vN, vN, vN, vN, (.d (.int .i64 a2)), vN, vN, vN, vN, vN, vN, vN, vN, vN, vN, vN, vN, vN, vN, vN, vN, vN, vN, vN, vN, vN, vN, vN, vN, vN, vN, vN, vN, vN, vN, vN, vN, vN, vN, vN, vN, vN, vN, vN, vN, vN, vN, vN, vN, vN, vN, vN, vN, vN, vN, vN, vN, vN, vN, vN, vN, vN, vN, vN, vN, vN, vN] [] =
    S16_7 n a1 a2 (K (.ret (.d (.int .i64 a2))) []) := by kernel_rfl

def S16_1 {ρ : Type} (n : Nat) (a1 : List UInt8) (a2 : Int) (k0 : Int → Option ρ) : Option ρ :=
  cond (decide (a2 ≥ (List.length a1 : Int))) (k0 a2) (ass (decide ((0 : Int) ≤ a2)) (gU a1 (Int.toNat a2) fun x1 => cond ((UInt8.toNat x1 : Int) == (59 : Int)) (k0 (IntKind.i64.wrap (a2 + (1 : Int)))) (cond ((UInt8.toNat x1 : Int) == (123 : Int)) (k0 (IntKind.i64.wrap (a2 + (1 : Int)))) (cond ((UInt8.toNat x1 : Int) == (125 : Int)) (k0 (IntKind.i64.wrap (a2 + (1 : Int)))) ((F24 n [(.int .u8 (UInt8.toNat x1 : Int))]).bind fun x2 => gB x2 fun x3 => cond x3 (L16_3 n n a1 a2 (fun x4 => S16_4 n a1 x4 (k0 x4))) ((F25 n [(.int .u8 (UInt8.toNat x1 : Int))]).bind fun x5 => gB x5 fun x6 => cond x6 (L16_6 n n a1 a2 (fun x7 => S16_7 n a1 x7 (k0 x7))) (k0 a2)))))))

theorem hS16_1 {ρ : Type} (n d : Nat) (a1 : List UInt8) (a2 : Int) (K : Out → List KB → Option ρ) :
    kC (ck16 n (d + 7)) (sp16 n) n c16_52 [(.d (.str a1)), (.d (.int .i64 a2)), vU, vU, vU, vU, vU, vU, vU, vU, vU, vU, vU, vU, vU, vU, vU, vU, vU, vU, vU, vU, vU, vU, vU, vU, vU, vU, vU, vU, vU, vU, vU, vU, vU, vU, vU, vU, vU, vU, vU, vU, vU, vU, vU, vU, vU, vU, vU, vU, vU, vU, vU, vU, vU, vU, vU, vU, vU, vU, vU, vU, vU, vU, vU, vU, vU, vU, vU] [] (endK [(.tmp 4 none)] 0 K) =
    cond (decide (a2 ≥ (List.length a1 : Int))) (K (.ret (.d (.int .i64 a2))) []) (ass (decide ((0 : Int) ≤ a2)) (gU a1 (Int.toNat a2) fun x1 => cond ((UInt8.toNat x1 : Int) == (59 : Int)) (K (.ret (.d (.int .i64 (IntKind.i64.wrap (a2 + (1 : Int)))))) []) (cond ((UInt8.toNat x1 : Int) == (123 : Int)) (K (.ret (.d (.int .i64 (IntKind.i64.wrap (a2 + (1 : Int)))))) []) (cond ((UInt8.toNat x1 : Int) == (125 : Int)) (K (.ret (.d (.int .i64 (IntKind.i64.wrap (a2 + (1 : Int)))))) []) ((F24 n [(.int .u8 (UInt8.toNat x1 : Int))]).bind fun x2 => gB x2 fun x3 => cond x3 (kLoop (kC (ck16 n (d + 7)) (sp16 n) n c16_25) ti16_26 [] n [(.d (.str a1)), vN, vN, vN, vN, vN, (.d (.int .i64 a2)), vN, vN, vN, vN, vN, vN, vN, vN, vN, vN, vN, vN, vN, vN, vN, vN, vN, vN, vN, vN, vN, vN, vN, vN, vN, vN, vN, vN, vN, vN, vN, vN, vN, vN, vN, vN, vN, vN, vN, vN, vN, vN, vN, vN, vN, vN, vN, vN, vN, vN, vN, vN, vN, vN, vN, vN, vN, vN, vN, vN, vN, vN] [] (blockK 0 (seqK (kC (ck16 n (d + 7)) (sp16 n) n c16_46) (endK [(.tmp 4 none)] 0 K)))) ((F25 n [(.int .u8 (UInt8.toNat x1 : Int))]).bind fun x4 => gB x4 fun x5 => cond x5 (kLoop (kC (ck16 n (d + 7)) (sp16 n) n c16_36) ti16_37 [] n [(.d (.str a1)), vN, vN, vN, vN, vN, (.d (.int .i64 a2)), vN, vN, vN, vN, vN, vN, vN, vN, vN, vN, vN, vN, vN, vN, vN, vN, vN, vN, vN, vN, vN, vN, vN, vN, vN, vN, vN, vN, vN, vN, vN, vN, vN, vN, vN, vN, vN, vN, vN, vN, vN, vN, vN, vN, vN, vN, vN, vN, vN, vN, vN, vN, vN, vN, vN, vN, vN, vN, vN, vN, vN, vN] [] (blockK 2 (seqK (kC (ck16 n (d + 7)) (sp16 n) n c16_46) (endK [(.tmp 4 none)] 0 K)))) (K (.ret (.d (.int .i64 a2))) []))))))) := by kernel_rfl

theorem tS16_1 {ρ : Type} (n d : Nat) (a1 : List UInt8) (a2 : Int) (K : Out → List KB → Option ρ) :
    kC (ck16 n (d + 7)) (sp16 n) n c16_52 [(.d (.str a1)), (.d (.int .i64 a2)), vU, vU, vU, vU, vU, vU, vU, vU, vU, vU, vU, vU, vU, vU, vU, vU, vU, vU, vU, vU, vU, vU, vU, vU, vU, vU, vU, vU, vU, vU, vU, vU, vU, vU, vU, vU, vU, vU, vU, vU, vU, vU, vU, vU, vU, vU, vU, vU, vU, vU, vU, vU, vU, vU, vU, vU, vU, vU, vU, vU, vU, vU, vU, vU, vU, vU, vU] [] (endK [(.tmp 4 none)] 0 K) =
    S16_1 n a1 a2 (fun (q1 : Int) => K (.ret (.d (.int .i64 q1))) []) :=
  (hS16_1 n d a1 a2 K).trans (by simp only [tL16_3, tL16_6, tS16_4, tS16_7]; kernel_rfl)

theorem tF16 {ρ : Type} (n d : Nat) (b1 : List UInt8) (b2 : Int) (K : Out → List KB → Option ρ) :
    ck16 n (d + 8) 16 [.d (.str b1), .d (.int .i64 b2)] [] K =
    S16_1 n b1 b2 (fun (q1 : Int) => K (.ret (.d (.int .i64 q1))) []) :=
  (show _ = kC (ck16 n (d + 7)) (sp16 n) n c16_52 [(.d (.str b1)), (.d (.int .i64 b2)), vU, vU, vU, vU, vU, vU, vU, vU, vU, vU, vU, vU, vU, vU, vU, vU, vU, vU, vU, vU, vU, vU, vU, vU, vU, vU, vU, vU, vU, vU, vU, vU, vU, vU, vU, vU, vU, vU, vU, vU, vU, vU, vU, vU, vU, vU, vU, vU, vU, vU, vU, vU, vU, vU, vU, vU, vU, vU, vU, vU, vU, vU, vU, vU, vU, vU, vU] [] (endK [(.tmp 4 none)] 0 K) from by kernel_rfl).trans (tS16_1 n d b1 b2 K)

def F16 (n : Nat) : Ev.Fn
  | [(.str b1), (.int .i64 b2)] => S16_1 n b1 b2 (fun (q1 : Int) => some (.int .i64 q1))
  | _ => none

theorem p16 (n : Nat) : Pure Tryd.prog YtgkjmdbjncnlpaaDoor.GL 16 (F16 n) := by
  refine pure_k bodyOK (spok16 n) (mkSp_S _) mix (callable_of (by kernel_rfl)) n 8 ?_
  intro ds x h
  unfold F16 at h
  split at h
  · rename_i b1 b2
    rw [← h]
    exact (tF16 n 0 b1 b2 fin).trans (by kernel_rfl)
  · cases h

def spl29 (n : Nat) : List (FuncId × Ev.Fn) := [(31, F31 n)]

def sp29 (n : Nat) : SpecT := mkSp isS (spl29 n)

theorem spok29 (n : Nat) : SpecOK Tryd.prog YtgkjmdbjncnlpaaDoor.GL (sp29 n) := mkSp_ok callS (all_cons (p31 n) all_nil)

def ck29 {ρ : Type} (n d : Nat) : CallK ρ := kF body (sp29 n) n d

def S29_1 {ρ : Type} (n : Nat) (a1 : List UInt8) (k0 : Int → Int → Int → Option ρ) : Option ρ :=
  cond (decide ((List.length a1 : Int) > (1 : Int))) (gU a1 0 fun x1 => cond ((UInt8.toNat x1 : Int) == (48 : Int)) (k0 (0 : Int) (0 : Int) (7 : Int)) ((F31 n [(.str a1)]).bind fun x2 => gT x2 fun x3 => gC x3 fun x4 x5 => gI .i64 x4 fun x6 => gC x5 fun x7 x8 => gF x7 (gE x8 (cond (decide (x6 > (1000000 : Int))) (k0 (0 : Int) (0 : Int) (3 : Int)) (k0 (2 : Int) x6 (0 : Int)))) fun x9 x10 => gE x8 (k0 (0 : Int) (0 : Int) (3 : Int)))) ((F31 n [(.str a1)]).bind fun x11 => gT x11 fun x12 => gC x12 fun x13 x14 => gI .i64 x13 fun x15 => gC x14 fun x16 x17 => gF x16 (gE x17 (cond (decide (x15 > (1000000 : Int))) (k0 (0 : Int) (0 : Int) (3 : Int)) (k0 (2 : Int) x15 (0 : Int)))) fun x18 x19 => gE x17 (k0 (0 : Int) (0 : Int) (3 : Int)))

theorem tS29_1 {ρ : Type} (n d : Nat) (a1 : List UInt8) (K : Out → List KB → Option ρ) :
    kC (ck29 n (d + 7)) (sp29 n) n c29_22 [(.d (.str a1)), vU, vU, vU, vU, vU, vU, vU, vU, vU, vU, vU, vU, vU, vU, vU, vU, vU, vU, vU, vU, vU, vU, vU, vU, vU, vU, vU, vU] [] (endK [(.cell 2 true 4), (.tmp 3 none)] 0 K) =
    S29_1 n a1 (fun (q1 : Int) (q2 : Int) (q3 : Int) => K (.ret (.d (.tup [(.agg [(.int .i64 q1), (.str []), (.int .i64 q2), (.int .i64 (0))]), (.int .i64 q3)]))) []) := by kernel_rfl

theorem tF29 {ρ : Type} (n d : Nat) (b1 : List UInt8) (K : Out → List KB → Option ρ) :
    ck29 n (d + 8) 29 [.d (.str b1)] [] K =
    S29_1 n b1 (fun (q1 : Int) (q2 : Int) (q3 : Int) => K (.ret (.d (.tup [(.agg [(.int .i64 q1), (.str []), (.int .i64 q2), (.int .i64 (0))]), (.int .i64 q3)]))) []) :=
  (show _ = kC (ck29 n (d + 7)) (sp29 n) n c29_22 [(.d (.str b1)), vU, vU, vU, vU, vU, vU, vU, vU, vU, vU, vU, vU, vU, vU, vU, vU, vU, vU, vU, vU, vU, vU, vU, vU, vU, vU, vU, vU] [] (endK [(.cell 2 true 4), (.tmp 3 none)] 0 K) from by kernel_rfl).trans (tS29_1 n d b1 K)

def F29 (n : Nat) : Ev.Fn
  | [(.str b1)] => S29_1 n b1 (fun (q1 : Int) (q2 : Int) (q3 : Int) => some (.tup [(.agg [(.int .i64 q1), (.str []), (.int .i64 q2), (.int .i64 (0))]), (.int .i64 q3)]))
  | _ => none

theorem p29 (n : Nat) : Pure Tryd.prog YtgkjmdbjncnlpaaDoor.GL 29 (F29 n) := by
  refine pure_k bodyOK (spok29 n) (mkSp_S _) mix (callable_of (by kernel_rfl)) n 8 ?_
  intro ds x h
  unfold F29 at h
  split at h
  · rename_i b1
    rw [← h]
    exact (tF29 n 0 b1 fin).trans (by kernel_rfl)
  · cases h

def spl21 (n : Nat) : List (FuncId × Ev.Fn) := [(18, F18 n), (29, F29 n), (30, F30 n)]

def sp21 (n : Nat) : SpecT := mkSp isS (spl21 n)

theorem spok21 (n : Nat) : SpecOK Tryd.prog YtgkjmdbjncnlpaaDoor.GL (sp21 n) := mkSp_ok callS (all_cons (p18 n) (all_cons (p29 n) (all_cons (p30 n) all_nil)))

def ck21 {ρ : Type} (n d : Nat) : CallK ρ := kF body (sp21 n) n d

def S21_2 {ρ : Type} (n : Nat) (a1 : List UInt8) (a2 : Int) (a3 : Int) (a4 : Int) (k0 : Int → Option ρ) (k1 : Option ρ) : Option ρ :=
  cond (decide (a3 < (List.length a1 : Int))) (ass (decide ((0 : Int) ≤ a3)) (gU a1 (Int.toNat a3) fun x1 => (F18 n [(.int .u8 (UInt8.toNat x1 : Int))]).bind fun x2 => gI .i64 x2 fun x3 => cond (x3 == (1 : Int)) (k0 (IntKind.i64.wrap (a3 + (1 : Int)))) ((F18 n [(.int .u8 (UInt8.toNat x1 : Int))]).bind fun x4 => gI .i64 x4 fun x5 => cond (x5 == (2 : Int)) (k0 (IntKind.i64.wrap (a3 + (1 : Int)))) (cond ((UInt8.toNat x1 : Int) == (95 : Int)) (k0 (IntKind.i64.wrap (a3 + (1 : Int)))) (k1))))) (k1)

theorem tS21_2 {ρ : Type} (n d : Nat) (a1 : List UInt8) (a2 : Int) (a3 : Int) (a4 : Int) (K : Ex → List V → List KB → Option ρ) :
    kC (ck21 n (d + 6)) (sp21 n) n c19_9 [(.d (.str a1)), (.d (.int .i64 a2)), (.d (.fn 26 [] [])), vN, vN, vN, vN, (.d (.int .i64 a3)), vN, vN, vN, vN, vN, vN, vN, vN, vN, vN, vN, vN, vN, vN, vN, vN, vN, vN] [(.cells [(.d (.int .i64 (0))), (.d (.str [])), (.d (.int .i64 (0))), (.d (.int .i64 (0)))]), (.cells [(.d (.int .i64 a4))])] (tidyK ti19_10 [] 2 K) =
    S21_2 n a1 a2 a3 a4 (fun (q1 : Int) => K .nor [(.d (.str a1)), (.d (.int .i64 a2)), (.d (.fn 26 [] [])), vN, vN, vN, vN, (.d (.int .i64 q1)), vN, vN, vN, vN, vN, vN, vN, vN, vN, vN, vN, vN, vN, vN, vN, vN, vN, vN] [(.cells [(.d (.int .i64 (0))), (.d (.str [])), (.d (.int .i64 (0))), (.d (.int .i64 (0)))]), (.cells [(.d (.int .i64 a4))])]) (K (.exit 0) [(.d (.str a1)), (.d (.int .i64 a2)), (.d (.fn 26 [] [])), vN, vN, vN, vN, (.d (.int .i64 a3)), vN, vN, vN, vN, vN, vN, vN, vN, vN, vN, vN, vN, vN, vN, vN, vN, vN, vN] [(.cells [(.d (.int .i64 (0))), (.d (.str [])), (.d (.int .i64 (0))), (.d (.int .i64 (0)))]), (.cells [(.d (.int .i64 a4))])]) := by kernel_rfl

def L21_3 {ρ : Type} (n : Nat) : Nat → (List UInt8) → Int → Int → Int → (Int → Option ρ) → Option ρ
  | 0, _, _, _, _, _ => none
  | m + 1, a1, a2, a3, a4, k0 => S21_2 n a1 a2 a3 a4 (fun x1 => L21_3 n m a1 a2 x1 a4 k0) (k0 a3)

theorem tL21_3 {ρ : Type} (n d : Nat) (K : Ex → List V → List KB → Option ρ) : ∀ (m : Nat) (a1 : List UInt8) (a2 : Int) (a3 : Int) (a4 : Int),
    kLoop (kC (ck21 n (d + 6)) (sp21 n) n c19_9) ti19_10 [] m [(.d (.str a1)), (.d (.int .i64 a2)), (.d (.fn 26 [] [])), vN, vN, vN, vN, (.d (.int .i64 a3)), vN, vN, vN, vN, vN, vN, vN, vN, vN, vN, vN, vN, vN, vN, vN, vN, vN, vN] [(.cells [(.d (.int .i64 (0))), (.d (.str [])), (.d (.int .i64 (0))), (.d (.int .i64 (0)))]), (.cells [(.d (.int .i64 a4))])] K =
    L21_3 n m a1 a2 a3 a4 (fun (q1 : Int) => K (.exit 0) [(.d (.str a1)), (.d (.int .i64 a2)), (.d (.fn 26 [] [])), vN, vN, vN, vN, (.d (.int .i64 q1)), vN, vN, vN, vN, vN, vN, vN, vN, vN, vN, vN, vN, vN, vN, vN, vN, vN, vN] [(.cells [(.d (.int .i64 (0))), (.d (.str [])), (.d (.int .i64 (0))), (.d (.int .i64 (0)))]), (.cells [(.d (.int .i64 a4))])]) := by
  intro m
  induction m with
  | zero => intros; kernel_rfl
  | succ m ih =>
    intro a1 a2 a3 a4
    exact (show _ = kC (ck21 n (d + 6)) (sp21 n) n c19_9 [(.d (.str a1)), (.d (.int .i64 a2)), (.d (.fn 26 [] [])), vN, vN, vN, vN, (.d (.int .i64 a3)), vN, vN, vN, vN, vN, vN, vN, vN, vN, vN, vN, vN, vN, vN, vN, vN, vN, vN] [(.cells [(.d (.int .i64 (0))), (.d (.str [])), (.d (.int .i64 (0))), (.d (.int .i64 (0)))]), (.cells [(.d (.int .i64 a4))])] (tidyK ti19_10 [] 2  (seqK (kLoop (kC (ck21 n (d + 6)) (sp21 n) n c19_9) ti19_10 [] m) K)) from by kernel_rfl).trans ((tS21_2 n d a1 a2 a3 a4 _).trans (by simp only [seqK_nor, ih, seqK_exit]; kernel_rfl))

def S21_4 {ρ : Type} (n : Nat) (a1 : List UInt8) (a2 : Int) (a3 : Int) (a4 : Int) (a5 : Int) (a6 : Bool) (k0 : Int → (List UInt8) → (List UInt8) → Int → Option ρ) : Option ρ :=
  ass ((decide ((0 : Int) ≤ a3) && decide (a3 ≤ ((List.length a1) : Int)))) (ass ((decide ((0 : Int) ≤ a2) && decide (a2 ≤ ((Int.toNat a3) : Int)))) (cond (decide ((List.length (List.take ((Int.toNat a3) - (Int.toNat a2)) (List.drop (Int.toNat a2) a1)) : Int) > (12 : Int))) (k0 (0 : Int) ([] : List UInt8) ([] : List UInt8) (3 : Int)) ((F30 n [(.str (List.take ((Int.toNat a3) - (Int.toNat a2)) (List.drop (Int.toNat a2) a1)))]).bind fun x1 => gS x1 fun x2 => k0 (1 : Int) x2 (List.take ((Int.toNat a3) - (Int.toNat a2)) (List.drop (Int.toNat a2) a1)) (0 : Int))))

theorem tS21_4 {ρ : Type} (n d : Nat) (a1 : List UInt8) (a2 : Int) (a3 : Int) (a4 : Int) (a5 : Int) (a6 : Bool) (K : Out → List KB → Option ρ) :
    (blockK 0 (seqK (kC (ck21 n (d + 6)) (sp21 n) n c19_14) (endK [(.tmp 6 none)] 2 (retK (some 21) [(.d (.str a1)), (.d (.int .i64 a2)), vU, vU, (.ptr 0 0), (.d (.str [])), (.d (.int .i64 (0))), (.ptr 1 0), vU, vU, vU, vU, (.d (.str a1)), (.d (.int .i64 a2)), (.d (.int .u8 a4)), (.d (.int .i64 a5)), (.d (.int .i64 a5)), (.d (.bool true)), (.d (.bool a6)), (.d (.str a1)), (.d (.int .i64 a2)), vU, vU, vU, vU, vU, vU, vU, vU, vU, vU, vU, vU, vU, vU, vU, vU, vU, vU, vU, vU, vU, vU, vU, vU, vU, vU, vU, vU, vU, vU, vU, vU, vU, vU, vU, vU, vU] (kOps (ck21 n (d + 7)) (sp21 n) [⟨⟨(some 8), (.op (.mv (.t 21))), none⟩, .no⟩]) (seqK (kC (ck21 n (d + 7)) (sp21 n) n c21_15) (blockK 0 (seqK (kC (ck21 n (d + 7)) (sp21 n) n c21_40) (endK [(.cell 4 true 4), (.tmp 5 none), (.tmp 6 none)] 0 K)))))))) (.exit 0) [(.d (.str a1)), (.d (.int .i64 a2)), (.d (.fn 26 [] [])), vN, vN, vN, vN, (.d (.int .i64 a3)), vN, vN, vN, vN, vN, vN, vN, vN, vN, vN, vN, vN, vN, vN, vN, vN, vN, vN] [(.cells [(.d (.int .i64 (0))), (.d (.str [])), (.d (.int .i64 (0))), (.d (.int .i64 (0)))]), (.cells [(.d (.int .i64 a5))])] =
    S21_4 n a1 a2 a3 a4 a5 a6 (fun (q1 : Int) (q2 : List UInt8) (q3 : List UInt8) (q4 : Int) => K (.ret (.d (.tup [(.agg [(.int .i64 q1), (.str q2), (.int .i64 (0)), (.int .i64 (0))]), (.str q3), (.int .i64 q4)]))) []) := by kernel_rfl

def S21_5 {ρ : Type} (n : Nat) (a1 : List UInt8) (a2 : Int) (a3 : Int) (a4 : Int) (k0 : Int → Option ρ) (k1 : Option ρ) : Option ρ :=
  cond (decide (a3 < (List.length a1 : Int))) (ass (decide ((0 : Int) ≤ a3)) (gU a1 (Int.toNat a3) fun x1 => (F18 n [(.int .u8 (UInt8.toNat x1 : Int))]).bind fun x2 => gI .i64 x2 fun x3 => cond (x3 == a4) (k0 (IntKind.i64.wrap (a3 + (1 : Int)))) (k1))) (k1)

theorem tS21_5 {ρ : Type} (n d : Nat) (a1 : List UInt8) (a2 : Int) (a3 : Int) (a4 : Int) (K : Ex → List V → List KB → Option ρ) :
    kC (ck21 n (d + 6)) (sp21 n) n c19_9 [(.d (.str a1)), (.d (.int .i64 a2)), (.fn 28 [] [(.ptr 1 0)]), vN, vN, vN, vN, (.d (.int .i64 a3)), vN, vN, vN, vN, vN, vN, vN, vN, vN, vN, vN, vN, vN, vN, vN, vN, vN, vN] [(.cells [(.d (.int .i64 (0))), (.d (.str [])), (.d (.int .i64 (0))), (.d (.int .i64 (0)))]), (.cells [(.d (.int .i64 a4))])] (tidyK ti19_10 [] 2 K) =
    S21_5 n a1 a2 a3 a4 (fun (q1 : Int) => K .nor [(.d (.str a1)), (.d (.int .i64 a2)), (.fn 28 [] [(.ptr 1 0)]), vN, vN, vN, vN, (.d (.int .i64 q1)), vN, vN, vN, vN, vN, vN, vN, vN, vN, vN, vN, vN, vN, vN, vN, vN, vN, vN] [(.cells [(.d (.int .i64 (0))), (.d (.str [])), (.d (.int .i64 (0))), (.d (.int .i64 (0)))]), (.cells [(.d (.int .i64 a4))])]) (K (.exit 0) [(.d (.str a1)), (.d (.int .i64 a2)), (.fn 28 [] [(.ptr 1 0)]), vN, vN, vN, vN, (.d (.int .i64 a3)), vN, vN, vN, vN, vN, vN, vN, vN, vN, vN, vN, vN, vN, vN, vN, vN, vN, vN] [(.cells [(.d (.int .i64 (0))), (.d (.str [])), (.d (.int .i64 (0))), (.d (.int .i64 (0)))]), (.cells [(.d (.int .i64 a4))])]) := by kernel_rfl

def L21_6 {ρ : Type} (n : Nat) : Nat → (List UInt8) → Int → Int → Int → (Int → Option ρ) → Option ρ
  | 0, _, _, _, _, _ => none
  | m + 1, a1, a2, a3, a4, k0 => S21_5 n a1 a2 a3 a4 (fun x1 => L21_6 n m a1 a2 x1 a4 k0) (k0 a3)

theorem tL21_6 {ρ : Type} (n d : Nat) (K : Ex → List V → List KB → Option ρ) : ∀ (m : Nat) (a1 : List UInt8) (a2 : Int) (a3 : Int) (a4 : Int),
    kLoop (kC (ck21 n (d + 6)) (sp21 n) n c19_9) ti19_10 [] m [(.d (.str a1)), (.d (.int .i64 a2)), (.fn 28 [] [(.ptr 1 0)]), vN, vN, vN, vN, (.d (.int .i64 a3)), vN, vN, vN, vN, vN, vN, vN, vN, vN, vN, vN, vN, vN, vN, vN, vN, vN, vN] [(.cells [(.d (.int .i64 (0))), (.d (.str [])), (.d (.int .i64 (0))), (.d (.int .i64 (0)))]), (.cells [(.d (.int .i64 a4))])] K =
    L21_6 n m a1 a2 a3 a4 (fun (q1 : Int) => K (.exit 0) [(.d (.str a1)), (.d (.int .i64 a2)), (.fn 28 [] [(.ptr 1 0)]), vN, vN, vN, vN, (.d (.int .i64 q1)), vN, vN, vN, vN, vN, vN, vN, vN, vN, vN, vN, vN, vN, vN, vN, vN, vN, vN] [(.cells [(.d (.int .i64 (0))), (.d (.str [])), (.d (.int .i64 (0))), (.d (.int .i64 (0)))]), (.cells [(.d (.int .i64 a4))])]) := by
  intro m
  induction m with
  | zero => intros; kernel_rfl
  | succ m ih =>
    intro a1 a2 a3 a4
    exact (show _ = kC (ck21 n (d + 6)) (sp21 n) n c19_9 [(.d (.str a1)), (.d (.int .i64 a2)), (.fn 28 [] [(.ptr 1 0)]), vN, vN, vN, vN, (.d (.int .i64 a3)), vN, vN, vN, vN, vN, vN, vN, vN, vN, vN, vN, vN, vN, vN, vN, vN, vN, vN] [(.cells [(.d (.int .i64 (0))), (.d (.str [])), (.d (.int .i64 (0))), (.d (.int .i64 (0)))]), (.cells [(.d (.int .i64 a4))])] (tidyK ti19_10 [] 2  (seqK (kLoop (kC (ck21 n (d + 6)) (sp21 n) n c19_9) ti19_10 [] m) K)) from by kernel_rfl).trans ((tS21_5 n d a1 a2 a3 a4 _).trans (by simp only [seqK_nor, ih, seqK_exit]; kernel_rfl))

def S21_7 {ρ : Type} (n : Nat) (a1 : List UInt8) (a2 : Int) (a3 : Int) (a4 : Int) (a5 : Int) (a6 : Bool) (a7 : Bool) (k0 : Int → (List UInt8) → Int → Int → (List UInt8) → Int → Option ρ) : Option ρ :=
  ass ((decide ((0 : Int) ≤ a3) && decide (a3 ≤ ((List.length a1) : Int)))) (ass ((decide ((0 : Int) ≤ a2) && decide (a2 ≤ ((Int.toNat a3) : Int)))) ((F29 n [(.str (List.take ((Int.toNat a3) - (Int.toNat a2)) (List.drop (Int.toNat a2) a1)))]).bind fun x1 => gT x1 fun x2 => gC x2 fun x3 x4 => gA x3 fun x5 => gC x5 fun x6 x7 => gI .i64 x6 fun x8 => gC x7 fun x9 x10 => gS x9 fun x11 => gC x10 fun x12 x13 => gI .i64 x12 fun x14 => gC x13 fun x15 x16 => gI .i64 x15 fun x17 => gE x16 (gC x4 fun x18 x19 => gI .i64 x18 fun x20 => gE x19 (k0 x8 x11 x14 x17 (List.take ((Int.toNat a3) - (Int.toNat a2)) (List.drop (Int.toNat a2) a1)) x20))))

theorem tS21_7 {ρ : Type} (n d : Nat) (a1 : List UInt8) (a2 : Int) (a3 : Int) (a4 : Int) (a5 : Int) (a6 : Bool) (a7 : Bool) (K : Out → List KB → Option ρ) :
    (blockK 0 (seqK (kC (ck21 n (d + 6)) (sp21 n) n c19_14) (endK [(.tmp 6 none)] 2 (retK (some 35) [(.d (.str a1)), (.d (.int .i64 a2)), vU, vU, (.ptr 0 0), (.d (.str [])), (.d (.int .i64 (0))), (.ptr 1 0), vU, vU, vU, vU, (.d (.str a1)), (.d (.int .i64 a2)), (.d (.int .u8 a4)), (.d (.int .i64 a5)), (.d (.int .i64 a5)), (.d (.bool false)), (.d (.bool a6)), vU, vU, vU, vU, vU, vU, vU, vU, vU, vU, vU, (.d (.bool true)), (.d (.bool a7)), (.d (.str a1)), (.d (.int .i64 a2)), (.fn 28 [] [(.ptr 1 0)]), vU, vU, vU, vU, vU, vU, vU, vU, vU, vU, vU, vU, vU, vU, vU, vU, vU, vU, vU, vU, vU, vU, vU] (kOps (ck21 n (d + 7)) (sp21 n) [⟨⟨(some 9), (.op (.mv (.t 35))), none⟩, .no⟩]) (seqK (kC (ck21 n (d + 7)) (sp21 n) n c21_23) (blockK 0 (seqK (kC (ck21 n (d + 7)) (sp21 n) n c21_40) (endK [(.cell 4 true 4), (.tmp 5 none), (.tmp 6 none)] 0 K)))))))) (.exit 0) [(.d (.str a1)), (.d (.int .i64 a2)), (.fn 28 [] [(.ptr 1 0)]), vN, vN, vN, vN, (.d (.int .i64 a3)), vN, vN, vN, vN, vN, vN, vN, vN, vN, vN, vN, vN, vN, vN, vN, vN, vN, vN] [(.cells [(.d (.int .i64 (0))), (.d (.str [])), (.d (.int .i64 (0))), (.d (.int .i64 (0)))]), (.cells [(.d (.int .i64 a5))])] =
    S21_7 n a1 a2 a3 a4 a5 a6 a7 (fun (q1 : Int) (q2 : List UInt8) (q3 : Int) (q4 : Int) (q5 : List UInt8) (q6 : Int) => K (.ret (.d (.tup [(.agg [(.int .i64 q1), (.str q2), (.int .i64 q3), (.int .i64 q4)]), (.str q5), (.int .i64 q6)]))) []) := by kernel_rfl

def S21_1 {ρ : Type} (n : Nat) (a1 : List UInt8) (a2 : Int) (k0 : Int → (List UInt8) → Int → Int → (List UInt8) → Int → Option ρ) : Option ρ :=
  ass (decide ((0 : Int) ≤ a2)) (gU a1 (Int.toNat a2) fun x1 => (F18 n [(.int .u8 (UInt8.toNat x1 : Int))]).bind fun x2 => gI .i64 x2 fun x3 => cond (x3 == (1 : Int)) (L21_3 n n a1 a2 a2 x3 (fun x4 => S21_4 n a1 a2 x4 (UInt8.toNat x1 : Int) x3 (x3 == (1 : Int)) (fun x5 x6 x7 x8 => k0 x5 x6 (0 : Int) (0 : Int) x7 x8))) (cond (x3 == (2 : Int)) (L21_6 n n a1 a2 a2 x3 (fun x9 => S21_7 n a1 a2 x9 (UInt8.toNat x1 : Int) x3 (x3 == (1 : Int)) (x3 == (2 : Int)) (fun x10 x11 x12 x13 x14 x15 => k0 x10 x11 x12 x13 x14 x15))) (cond (x3 == (3 : Int)) (ass ((decide ((0 : Int) ≤ (IntKind.i64.wrap (a2 + (1 : Int)))) && decide ((IntKind.i64.wrap (a2 + (1 : Int))) ≤ ((List.length a1) : Int)))) (ass ((decide ((0 : Int) ≤ a2) && decide (a2 ≤ ((Int.toNat (IntKind.i64.wrap (a2 + (1 : Int)))) : Int)))) (ass ((decide ((0 : Int) ≤ (IntKind.i64.wrap (a2 + (1 : Int)))) && decide ((IntKind.i64.wrap (a2 + (1 : Int))) ≤ ((List.length a1) : Int)))) (ass ((decide ((0 : Int) ≤ a2) && decide (a2 ≤ ((Int.toNat (IntKind.i64.wrap (a2 + (1 : Int)))) : Int)))) (k0 (3 : Int) (List.take ((Int.toNat (IntKind.i64.wrap (a2 + (1 : Int)))) - (Int.toNat a2)) (List.drop (Int.toNat a2) a1)) (0 : Int) (0 : Int) (List.take ((Int.toNat (IntKind.i64.wrap (a2 + (1 : Int)))) - (Int.toNat a2)) (List.drop (Int.toNat a2) a1)) (0 : Int)))))) (k0 (0 : Int) ([] : List UInt8) (0 : Int) (0 : Int) ([] : List UInt8) (7 : Int)))))

theorem hS21_1 {ρ : Type} (n d : Nat) (a1 : List UInt8) (a2 : Int) (K : Out → List KB → Option ρ) :
    kC (ck21 n (d + 7)) (sp21 n) n c21_43 [(.d (.str a1)), (.d (.int .i64 a2)), vU, vU, vU, vU, vU, vU, vU, vU, vU, vU, vU, vU, vU, vU, vU, vU, vU, vU, vU, vU, vU, vU, vU, vU, vU, vU, vU, vU, vU, vU, vU, vU, vU, vU, vU, vU, vU, vU, vU, vU, vU, vU, vU, vU, vU, vU, vU, vU, vU, vU, vU, vU, vU, vU, vU, vU] [] (endK [(.cell 4 true 4), (.tmp 5 none), (.tmp 6 none)] 0 K) =
    ass (decide ((0 : Int) ≤ a2)) (gU a1 (Int.toNat a2) fun x1 => (F18 n [(.int .u8 (UInt8.toNat x1 : Int))]).bind fun x2 => gI .i64 x2 fun x3 => cond (x3 == (1 : Int)) (kLoop (kC (ck21 n (d + 6)) (sp21 n) n c19_9) ti19_10 [] n [(.d (.str a1)), (.d (.int .i64 a2)), (.d (.fn 26 [] [])), vN, vN, vN, vN, (.d (.int .i64 a2)), vN, vN, vN, vN, vN, vN, vN, vN, vN, vN, vN, vN, vN, vN, vN, vN, vN, vN] [(.cells [(.d (.int .i64 (0))), (.d (.str [])), (.d (.int .i64 (0))), (.d (.int .i64 (0)))]), (.cells [(.d (.int .i64 x3))])] (blockK 0 (seqK (kC (ck21 n (d + 6)) (sp21 n) n c19_14) (endK [(.tmp 6 none)] 2 (retK (some 21) [(.d (.str a1)), (.d (.int .i64 a2)), vU, vU, (.ptr 0 0), (.d (.str [])), (.d (.int .i64 (0))), (.ptr 1 0), vU, vU, vU, vU, (.d (.str a1)), (.d (.int .i64 a2)), (.d (.int .u8 (UInt8.toNat x1 : Int))), (.d (.int .i64 x3)), (.d (.int .i64 x3)), (.d (.bool true)), (.d (.bool (x3 == (1 : Int)))), (.d (.str a1)), (.d (.int .i64 a2)), vU, vU, vU, vU, vU, vU, vU, vU, vU, vU, vU, vU, vU, vU, vU, vU, vU, vU, vU, vU, vU, vU, vU, vU, vU, vU, vU, vU, vU, vU, vU, vU, vU, vU, vU, vU, vU] (kOps (ck21 n (d + 7)) (sp21 n) [⟨⟨(some 8), (.op (.mv (.t 21))), none⟩, .no⟩]) (seqK (kC (ck21 n (d + 7)) (sp21 n) n c21_15) (blockK 0 (seqK (kC (ck21 n (d + 7)) (sp21 n) n c21_40) (endK [(.cell 4 true 4), (.tmp 5 none), (.tmp 6 none)] 0 K))))))))) (cond (x3 == (2 : Int)) (kLoop (kC (ck21 n (d + 6)) (sp21 n) n c19_9) ti19_10 [] n [(.d (.str a1)), (.d (.int .i64 a2)), (.fn 28 [] [(.ptr 1 0)]), vN, vN, vN, vN, (.d (.int .i64 a2)), vN, vN, vN, vN, vN, vN, vN, vN, vN, vN, vN, vN, vN, vN, vN, vN, vN, vN] [(.cells [(.d (.int .i64 (0))), (.d (.str [])), (.d (.int .i64 (0))), (.d (.int .i64 (0)))]), (.cells [(.d (.int .i64 x3))])] (blockK 0 (seqK (kC (ck21 n (d + 6)) (sp21 n) n c19_14) (endK [(.tmp 6 none)] 2 (retK (some 35) [(.d (.str a1)), (.d (.int .i64 a2)), vU, vU, (.ptr 0 0), (.d (.str [])), (.d (.int .i64 (0))), (.ptr 1 0), vU, vU, vU, vU, (.d (.str a1)), (.d (.int .i64 a2)), (.d (.int .u8 (UInt8.toNat x1 : Int))), (.d (.int .i64 x3)), (.d (.int .i64 x3)), (.d (.bool false)), (.d (.bool (x3 == (1 : Int)))), vU, vU, vU, vU, vU, vU, vU, vU, vU, vU, vU, (.d (.bool true)), (.d (.bool (x3 == (2 : Int)))), (.d (.str a1)), (.d (.int .i64 a2)), (.fn 28 [] [(.ptr 1 0)]), vU, vU, vU, vU, vU, vU, vU, vU, vU, vU, vU, vU, vU, vU, vU, vU, vU, vU, vU, vU, vU, vU, vU] (kOps (ck21 n (d + 7)) (sp21 n) [⟨⟨(some 9), (.op (.mv (.t 35))), none⟩, .no⟩]) (seqK (kC (ck21 n (d + 7)) (sp21 n) n c21_23) (blockK 0 (seqK (kC (ck21 n (d + 7)) (sp21 n) n c21_40) (endK [(.cell 4 true 4), (.tmp 5 none), (.tmp 6 none)] 0 K))))))))) (cond (x3 == (3 : Int)) (ass ((decide ((0 : Int) ≤ (IntKind.i64.wrap (a2 + (1 : Int)))) && decide ((IntKind.i64.wrap (a2 + (1 : Int))) ≤ ((List.length a1) : Int)))) (ass ((decide ((0 : Int) ≤ a2) && decide (a2 ≤ ((Int.toNat (IntKind.i64.wrap (a2 + (1 : Int)))) : Int)))) (ass ((decide ((0 : Int) ≤ (IntKind.i64.wrap (a2 + (1 : Int)))) && decide ((IntKind.i64.wrap (a2 + (1 : Int))) ≤ ((List.length a1) : Int)))) (ass ((decide ((0 : Int) ≤ a2) && decide (a2 ≤ ((Int.toNat (IntKind.i64.wrap (a2 + (1 : Int)))) : Int)))) (K (.ret (.d (.tup [(.agg [(.int .i64 (3)), (.str (List.take ((Int.toNat (IntKind.i64.wrap (a2 + (1 : Int)))) - (Int.toNat a2)) (List.drop (Int.toNat a2) a1))), (.int .i64 (0)), (.int .i64 (0))]), (.str (List.take ((Int.toNat (IntKind.i64.wrap (a2 + (1 : Int)))) - (Int.toNat a2)) (List.drop (Int.toNat a2) a1))), (.int .i64 (0))]))) []))))) (K (.ret (.d (.tup [(.agg [(.int .i64 (0)), (.str []), (.int .i64 (0)), (.int .i64 (0))]), (.str []), (.int .i64 (7))]))) [])))) := by kernel_rfl

theorem tS21_1 {ρ : Type} (n d : Nat) (a1 : List UInt8) (a2 : Int) (K : Out → List KB → Option ρ) :
    kC (ck21 n (d + 7)) (sp21 n) n c21_43 [(.d (.str a1)), (.d (.int .i64 a2)), vU, vU, vU, vU, vU, vU, vU, vU, vU, vU, vU, vU, vU, vU, vU, vU, vU, vU, vU, vU, vU, vU, vU, vU, vU, vU, vU, vU, vU, vU, vU, vU, vU, vU, vU, vU, vU, vU, vU, vU, vU, vU, vU, vU, vU, vU, vU, vU, vU, vU, vU, vU, vU, vU, vU, vU] [] (endK [(.cell 4 true 4), (.tmp 5 none), (.tmp 6 none)] 0 K) =
    S21_1 n a1 a2 (fun (q1 : Int) (q2 : List UInt8) (q3 : Int) (q4 : Int) (q5 : List UInt8) (q6 : Int) => K (.ret (.d (.tup [(.agg [(.int .i64 q1), (.str q2), (.int .i64 q3), (.int .i64 q4)]), (.str q5), (.int .i64 q6)]))) []) :=
  (hS21_1 n d a1 a2 K).trans (by simp only [tL21_3, tL21_6, tS21_4, tS21_7]; kernel_rfl)

theorem tF21 {ρ : Type} (n d : Nat) (b1 : List UInt8) (b2 : Int) (K : Out → List KB → Option ρ) :
    ck21 n (d + 8) 21 [.d (.str b1), .d (.int .i64 b2)] [] K =
    S21_1 n b1 b2 (fun (q1 : Int) (q2 : List UInt8) (q3 : Int) (q4 : Int) (q5 : List UInt8) (q6 : Int) => K (.ret (.d (.tup [(.agg [(.int .i64 q1), (.str q2), (.int .i64 q3), (.int .i64 q4)]), (.str q5), (.int .i64 q6)]))) []) :=
  (show _ = kC (ck21 n (d + 7)) (sp21 n) n c21_43 [(.d (.str b1)), (.d (.int .i64 b2)), vU, vU, vU, vU, vU, vU, vU, vU, vU, vU, vU, vU, vU, vU, vU, vU, vU, vU, vU, vU, vU, vU, vU, vU, vU, vU, vU, vU, vU, vU, vU, vU, vU, vU, vU, vU, vU, vU, vU, vU, vU, vU, vU, vU, vU, vU, vU, vU, vU, vU, vU, vU, vU, vU, vU, vU] [] (endK [(.cell 4 true 4), (.tmp 5 none), (.tmp 6 none)] 0 K) from by kernel_rfl).trans (tS21_1 n d b1 b2 K)

def F21 (n : Nat) : Ev.Fn
  | [(.str b1), (.int .i64 b2)] => S21_1 n b1 b2 (fun (q1 : Int) (q2 : List UInt8) (q3 : Int) (q4 : Int) (q5 : List UInt8) (q6 : Int) => some (.tup [(.agg [(.int .i64 q1), (.str q2), (.int .i64 q3), (.int .i64 q4)]), (.str q5), (.int .i64 q6)]))
  | _ => none

theorem p21 (n : Nat) : Pure Tryd.prog YtgkjmdbjncnlpaaDoor.GL 21 (F21 n) := by
  refine pure_k bodyOK (spok21 n) (mkSp_S _) mix (callable_of (by kernel_rfl)) n 8 ?_
  intro ds x h
  unfold F21 at h
  split at h
  · rename_i b1 b2
    rw [← h]
    exact (tF21 n 0 b1 b2 fin).trans (by kernel_rfl)
  · cases h

def spl10 (n : Nat) : List (FuncId × Ev.Fn) := [(18, F18 n), (21, F21 n)]

def sp10 (n : Nat) : SpecT := mkSp isS (spl10 n)

theorem spok10 (n : Nat) : SpecOK Tryd.prog YtgkjmdbjncnlpaaDoor.GL (sp10 n) := mkSp_ok callS (all_cons (p18 n) (all_cons (p21 n) all_nil))

def ck10 {ρ : Type} (n d : Nat) : CallK ρ := kF body (sp10 n) n d

def S10_3 {ρ : Type} (n : Nat) (a1 : List UInt8) (a2 : Int) (a3 : Int) (a4 : Nat) (k0 : Int → Option ρ) (k1 : Option ρ) : Option ρ :=
  cond (decide (a3 < (List.length a1 : Int))) (ass (decide ((0 : Int) ≤ a3)) (gU a1 (Int.toNat a3) fun x1 => cond ((UInt8.toNat x1 : Int) != (10 : Int)) (k0 (IntKind.i64.wrap (a3 + (1 : Int)))) (k1))) (k1)

theorem tS10_3 {ρ : Type} (n d : Nat) (a1 : List UInt8) (a2 : Int) (a3 : Int) (a4 : Nat) (K : Ex → List V → List KB → Option ρ) :
    kC (ck10 n (d + 6)) (sp10 n) n c19_9 [(.d (.str a1)), (.d (.int .i64 a2)), (.d (.fn 20 [] [])), vN, vN, vN, vN, (.d (.int .i64 a3)), vN, vN, vN, vN, vN, vN, vN, vN, vN, vN, vN, vN, vN, vN, vN, vN, vN, vN] [(.tip 4 a4)] (tidyK ti19_10 [] 1 K) =
    S10_3 n a1 a2 a3 a4 (fun (q1 : Int) => K .nor [(.d (.str a1)), (.d (.int .i64 a2)), (.d (.fn 20 [] [])), vN, vN, vN, vN, (.d (.int .i64 q1)), vN, vN, vN, vN, vN, vN, vN, vN, vN, vN, vN, vN, vN, vN, vN, vN, vN, vN] [(.tip 4 a4)]) (K (.exit 0) [(.d (.str a1)), (.d (.int .i64 a2)), (.d (.fn 20 [] [])), vN, vN, vN, vN, (.d (.int .i64 a3)), vN, vN, vN, vN, vN, vN, vN, vN, vN, vN, vN, vN, vN, vN, vN, vN, vN, vN] [(.tip 4 a4)]) := by kernel_rfl

def L10_4 {ρ : Type} (n : Nat) : Nat → (List UInt8) → Int → Int → Nat → (Int → Option ρ) → Option ρ
  | 0, _, _, _, _, _ => none
  | m + 1, a1, a2, a3, a4, k0 => S10_3 n a1 a2 a3 a4 (fun x1 => L10_4 n m a1 a2 x1 a4 k0) (k0 a3)

theorem tL10_4 {ρ : Type} (n d : Nat) (K : Ex → List V → List KB → Option ρ) : ∀ (m : Nat) (a1 : List UInt8) (a2 : Int) (a3 : Int) (a4 : Nat),
    kLoop (kC (ck10 n (d + 6)) (sp10 n) n c19_9) ti19_10 [] m [(.d (.str a1)), (.d (.int .i64 a2)), (.d (.fn 20 [] [])), vN, vN, vN, vN, (.d (.int .i64 a3)), vN, vN, vN, vN, vN, vN, vN, vN, vN, vN, vN, vN, vN, vN, vN, vN, vN, vN] [(.tip 4 a4)] K =
    L10_4 n m a1 a2 a3 a4 (fun (q1 : Int) => K (.exit 0) [(.d (.str a1)), (.d (.int .i64 a2)), (.d (.fn 20 [] [])), vN, vN, vN, vN, (.d (.int .i64 q1)), vN, vN, vN, vN, vN, vN, vN, vN, vN, vN, vN, vN, vN, vN, vN, vN, vN, vN] [(.tip 4 a4)]) := by
  intro m
  induction m with
  | zero => intros; kernel_rfl
  | succ m ih =>
    intro a1 a2 a3 a4
    exact (show _ = kC (ck10 n (d + 6)) (sp10 n) n c19_9 [(.d (.str a1)), (.d (.int .i64 a2)), (.d (.fn 20 [] [])), vN, vN, vN, vN, (.d (.int .i64 a3)), vN, vN, vN, vN, vN, vN, vN, vN, vN, vN, vN, vN, vN, vN, vN, vN, vN, vN] [(.tip 4 a4)] (tidyK ti19_10 [] 1  (seqK (kLoop (kC (ck10 n (d + 6)) (sp10 n) n c19_9) ti19_10 [] m) K)) from by kernel_rfl).trans ((tS10_3 n d a1 a2 a3 a4 _).trans (by simp only [seqK_nor, ih, seqK_exit]; kernel_rfl))

def S10_5 {ρ : Type} (n : Nat) (a1 : List UInt8) (a2 : Int) (a3 : Int) (a4 : Nat) (a5 : List D) (a6 : Int) (a7 : Int) (a8 : Int) (a9 : Bool) (a10 : Bool) (a11 : Nat) (k0 : Int → Option ρ) : Option ρ :=
  ass ((decide ((0 : Int) ≤ a3) && decide (a3 ≤ ((List.length a1) : Int)))) (ass ((decide ((0 : Int) ≤ a2) && decide (a2 ≤ ((Int.toNat a3) : Int)))) (k0 (IntKind.i64.wrap (a2 + (List.length (List.take ((Int.toNat a3) - (Int.toNat a2)) (List.drop (Int.toNat a2) a1)) : Int)))))

theorem tS10_5 {ρ : Type} (n d : Nat) (a1 : List UInt8) (a2 : Int) (a3 : Int) (a4 : Nat) (a5 : List D) (a6 : Int) (a7 : Int) (a8 : Int) (a9 : Bool) (a10 : Bool) (a11 : Nat) (K : Ex → List V → List KB → Option ρ) :
    (blockK 0 (seqK (kC (ck10 n (d + 6)) (sp10 n) n c19_14) (endK [(.tmp 6 none)] 1 (retK (some 30) [(.d (.str a1)), vN, vN, vN, vN, (.gs 0 4 a4 a5), (.d (.int .i64 a2)), vN, vN, vN, vN, vN, vN, (.d (.int .i64 a2)), (.d (.str a1)), (.d (.int .i64 a6)), (.d (.bool true)), (.d (.str a1)), (.d (.int .i64 a2)), (.d (.int .u8 a7)), (.d (.int .i64 a8)), (.d (.bool false)), (.d (.bool a9)), vN, vN, (.d (.bool true)), (.d (.bool a10)), (.d (.int .i64 a2)), (.d (.str a1)), (.d (.int .i64 a2)), vN, vN, vN, vN, vN, vN, vN, vN, vN, vN, vN, vN, vN, vN, vN, vN, vN, vN, vN, vN, vN, vN, vN, vN, vN, vN, vN, vN, vN] (kOps (ck10 n (d + 7)) (sp10 n) [⟨⟨(some 31), (.op (.lenS (.t 30))), none⟩, .no⟩, ⟨⟨(some 32), (.op (.bin .add (.t 27) (.t 31))), none⟩, .no⟩, ⟨⟨(some 6), (.op (.mv (.t 32))), none⟩, .no⟩]) (seqK (kC (ck10 n (d + 7)) (sp10 n) n c10_23) (blockK 2 (seqK (kC (ck10 n (d + 7)) (sp10 n) n c10_54) (blockK 1 (tidyK ti10_58 [] 1 K))))))))) (.exit 0) [(.d (.str a1)), (.d (.int .i64 a2)), (.d (.fn 20 [] [])), vN, vN, vN, vN, (.d (.int .i64 a3)), vN, vN, vN, vN, vN, vN, vN, vN, vN, vN, vN, vN, vN, vN, vN, vN, vN, vN] [(.tip 4 a11)] =
    S10_5 n a1 a2 a3 a4 a5 a6 a7 a8 a9 a10 a11 (fun (q1 : Int) => K .nor [(.d (.str a1)), vN, vN, vN, vN, (.gs 0 4 a4 a5), (.d (.int .i64 q1)), vN, vN, vN, vN, vN, vN, vN, vN, vN, vN, vN, vN, vN, vN, vN, vN, vN, vN, vN, vN, vN, vN, vN, vN, vN, vN, vN, vN, vN, vN, vN, vN, vN, vN, vN, vN, vN, vN, vN, vN, vN, vN, vN, vN, vN, vN, vN, vN, vN, vN, vN, vN] [(.tip 4 a11)]) := by kernel_rfl

def S10_2 {ρ : Type} (n : Nat) (a1 : List UInt8) (a2 : Nat) (a3 : List D) (a4 : Int) (a5 : Nat) (k0 : Nat → (List D) → Int → Nat → Option ρ) (k1 : Int → Option ρ) (k2 : Option ρ) : Option ρ :=
  cond (decide (a4 < (List.length a1 : Int))) (ass (decide ((0 : Int) ≤ a4)) (gU a1 (Int.toNat a4) fun x1 => (F18 n [(.int .u8 (UInt8.toNat x1 : Int))]).bind fun x2 => gI .i64 x2 fun x3 => cond (x3 == (4 : Int)) (k0 a2 a3 (IntKind.i64.wrap (a4 + (1 : Int))) a5) (cond (x3 == (5 : Int)) (L10_4 n n a1 a4 a4 a5 (fun x4 => S10_5 n a1 a4 x4 a2 a3 (List.length a1 : Int) (UInt8.toNat x1 : Int) x3 (x3 == (4 : Int)) (x3 == (5 : Int)) a5 (fun x5 => k0 a2 a3 x5 a5))) (cond ((a2 : Int) == (2000 : Int)) (k1 (2 : Int)) ((F21 n [(.str a1), (.int .i64 a4)]).bind fun x6 => gT x6 fun x7 => gC x7 fun x8 x9 => gA x8 fun x10 => gC x10 fun x11 x12 => gI .i64 x11 fun x13 => gC x12 fun x14 x15 => gS x14 fun x16 => gC x15 fun x17 x18 => gI .i64 x17 fun x19 => gC x18 fun x20 x21 => gI .i64 x20 fun x22 => gE x21 (gC x9 fun x23 x24 => gS x23 fun x25 => gC x24 fun x26 x27 => gI .i64 x26 fun x28 => gE x27 (cond (x28 != (0 : Int)) (k1 x28) (ass ((a5 == a2 && (decide ((a2 + 1) * 40 ≤ 140737488355328) && decide ((a2 + 1) ≤ 9223372036854775807)))) (k0 (a2 + 1) (a3 ++ [(.int .i64 x13), (.str x16), (.int .i64 x19), (.int .i64 a4)]) (IntKind.i64.wrap (a4 + (List.length x25 : Int))) (a2 + 1)))))))))) (k2)

theorem hS10_2 {ρ : Type} (n d : Nat) (a1 : List UInt8) (a2 : Nat) (a3 : List D) (a4 : Int) (a5 : Nat) (K : Ex → List V → List KB → Option ρ) :
    kC (ck10 n (d + 7)) (sp10 n) n c10_57 [(.d (.str a1)), vN, vN, vN, vN, (.gs 0 4 a2 a3), (.d (.int .i64 a4)), vN, vN, vN, vN, vN, vN, vN, vN, vN, vN, vN, vN, vN, vN, vN, vN, vN, vN, vN, vN, vN, vN, vN, vN, vN, vN, vN, vN, vN, vN, vN, vN, vN, vN, vN, vN, vN, vN, vN, vN, vN, vN, vN, vN, vN, vN, vN, vN, vN, vN, vN, vN] [(.tip 4 a5)] (tidyK ti10_58 [] 1 K) =
    cond (decide (a4 < (List.length a1 : Int))) (ass (decide ((0 : Int) ≤ a4)) (gU a1 (Int.toNat a4) fun x1 => (F18 n [(.int .u8 (UInt8.toNat x1 : Int))]).bind fun x2 => gI .i64 x2 fun x3 => cond (x3 == (4 : Int)) (K .nor [(.d (.str a1)), vN, vN, vN, vN, (.gs 0 4 a2 a3), (.d (.int .i64 (IntKind.i64.wrap (a4 + (1 : Int))))), vN, vN, vN, vN, vN, vN, vN, vN, vN, vN, vN, vN, vN, vN, vN, vN, vN, vN, vN, vN, vN, vN, vN, vN, vN, vN, vN, vN, vN, vN, vN, vN, vN, vN, vN, vN, vN, vN, vN, vN, vN, vN, vN, vN, vN, vN, vN, vN, vN, vN, vN, vN] [(.tip 4 a5)]) (cond (x3 == (5 : Int)) (kLoop (kC (ck10 n (d + 6)) (sp10 n) n c19_9) ti19_10 [] n [(.d (.str a1)), (.d (.int .i64 a4)), (.d (.fn 20 [] [])), vN, vN, vN, vN, (.d (.int .i64 a4)), vN, vN, vN, vN, vN, vN, vN, vN, vN, vN, vN, vN, vN, vN, vN, vN, vN, vN] [(.tip 4 a5)] (blockK 0 (seqK (kC (ck10 n (d + 6)) (sp10 n) n c19_14) (endK [(.tmp 6 none)] 1 (retK (some 30) [(.d (.str a1)), vN, vN, vN, vN, (.gs 0 4 a2 a3), (.d (.int .i64 a4)), vN, vN, vN, vN, vN, vN, (.d (.int .i64 a4)), (.d (.str a1)), (.d (.int .i64 (List.length a1 : Int))), (.d (.bool true)), (.d (.str a1)), (.d (.int .i64 a4)), (.d (.int .u8 (UInt8.toNat x1 : Int))), (.d (.int .i64 x3)), (.d (.bool false)), (.d (.bool (x3 == (4 : Int)))), vN, vN, (.d (.bool true)), (.d (.bool (x3 == (5 : Int)))), (.d (.int .i64 a4)), (.d (.str a1)), (.d (.int .i64 a4)), vN, vN, vN, vN, vN, vN, vN, vN, vN, vN, vN, vN, vN, vN, vN, vN, vN, vN, vN, vN, vN, vN, vN, vN, vN, vN, vN, vN, vN] (kOps (ck10 n (d + 7)) (sp10 n) [⟨⟨(some 31), (.op (.lenS (.t 30))), none⟩, .no⟩, ⟨⟨(some 32), (.op (.bin .add (.t 27) (.t 31))), none⟩, .no⟩, ⟨⟨(some 6), (.op (.mv (.t 32))), none⟩, .no⟩]) (seqK (kC (ck10 n (d + 7)) (sp10 n) n c10_23) (blockK 2 (seqK (kC (ck10 n (d + 7)) (sp10 n) n c10_54) (blockK 1 (tidyK ti10_58 [] 1 K)))))))))) (cond ((a2 : Int) == (2000 : Int)) (K .ret [vN, vN, (.d .nils), (.d (.int .i64 (2))), (.d (.int .i64 a4)), vN, vN, vN, vN, vN, vN, vN, vN, vN, vN, vN, vN, vN, vN, vN, vN, vN, vN, vN, vN, vN, vN, vN, vN, vN, vN, vN, vN, vN, vN, vN, vN, vN, vN, vN, vN, vN, vN, vN, vN, vN, vN, vN, vN, vN, vN, vN, vN, vN, vN, vN, vN, vN, vN] [(.tip 4 a5)]) ((F21 n [(.str a1), (.int .i64 a4)]).bind fun x4 => gT x4 fun x5 => gC x5 fun x6 x7 => gA x6 fun x8 => gC x8 fun x9 x10 => gI .i64 x9 fun x11 => gC x10 fun x12 x13 => gS x12 fun x14 => gC x13 fun x15 x16 => gI .i64 x15 fun x17 => gC x16 fun x18 x19 => gI .i64 x18 fun x20 => gE x19 (gC x7 fun x21 x22 => gS x21 fun x23 => gC x22 fun x24 x25 => gI .i64 x24 fun x26 => gE x25 (cond (x26 != (0 : Int)) (K .ret [vN, vN, (.d .nils), (.d (.int .i64 x26)), (.d (.int .i64 a4)), vN, vN, vN, vN, vN, vN, vN, vN, vN, vN, vN, vN, vN, vN, vN, vN, vN, vN, vN, vN, vN, vN, vN, vN, vN, vN, vN, vN, vN, vN, vN, vN, vN, vN, vN, vN, vN, vN, vN, vN, vN, vN, vN, vN, vN, vN, vN, vN, vN, vN, vN, vN, vN, vN] [(.tip 4 a5)]) (ass ((a5 == a2 && (decide ((a2 + 1) * 40 ≤ 140737488355328) && decide ((a2 + 1) ≤ 9223372036854775807)))) (K .nor [(.d (.str a1)), vN, vN, vN, vN, (.gs 0 4 (a2 + 1) (a3 ++ [(.int .i64 x11), (.str x14), (.int .i64 x17), (.int .i64 a4)])), (.d (.int .i64 (IntKind.i64.wrap (a4 + (List.length x23 : Int))))), vN, vN, vN, vN, vN, vN, vN, vN, vN, vN, vN, vN, vN, vN, vN, vN, vN, vN, vN, vN, vN, vN, vN, vN, vN, vN, vN, vN, vN, vN, vN, vN, vN, vN, vN, vN, vN, vN, vN, vN, vN, vN, vN, vN, vN, vN, vN, vN, vN, vN, vN, vN] [(.tip 4 (a2 + 1))]))))))))) (K (.exit 0) [(.d (.str a1)), vN, vN, vN, vN, (.gs 0 4 a2 a3), (.d (.int .i64 a4)), vN, vN, vN, vN, vN, vN, vN, vN, vN, vN, vN, vN, vN, vN, vN, vN, vN, vN, vN, vN, vN, vN, vN, vN, vN, vN, vN, vN, vN, vN, vN, vN, vN, vN, vN, vN, vN, vN, vN, vN, vN, vN, vN, vN, vN, vN, vN, vN, vN, vN, vN, vN] [(.tip 4 a5)]) := by kernel_rfl

theorem tS10_2 {ρ : Type} (n d : Nat) (a1 : List UInt8) (a2 : Nat) (a3 : List D) (a4 : Int) (a5 : Nat) (K : Ex → List V → List KB → Option ρ) :
    kC (ck10 n (d + 7)) (sp10 n) n c10_57 [(.d (.str a1)), vN, vN, vN, vN, (.gs 0 4 a2 a3), (.d (.int .i64 a4)), vN, vN, vN, vN, vN, vN, vN, vN, vN, vN, vN, vN, vN, vN, vN, vN, vN, vN, vN, vN, vN, vN, vN, vN, vN, vN, vN, vN, vN, vN, vN, vN, vN, vN, vN, vN, vN, vN, vN, vN, vN, vN, vN, vN, vN, vN, vN, vN, vN, vN, vN, vN] [(.tip 4 a5)] (tidyK ti10_58 [] 1 K) =
    S10_2 n a1 a2 a3 a4 a5 (fun (q1 : Nat) (q2 : List D) (q3 : Int) (q4 : Nat) => K .nor [(.d (.str a1)), vN, vN, vN, vN, (.gs 0 4 q1 q2), (.d (.int .i64 q3)), vN, vN, vN, vN, vN, vN, vN, vN, vN, vN, vN, vN, vN, vN, vN, vN, vN, vN, vN, vN, vN, vN, vN, vN, vN, vN, vN, vN, vN, vN, vN, vN, vN, vN, vN, vN, vN, vN, vN, vN, vN, vN, vN, vN, vN, vN, vN, vN, vN, vN, vN, vN] [(.tip 4 q4)]) (fun (q1 : Int) => K .ret [vN, vN, (.d .nils), (.d (.int .i64 q1)), (.d (.int .i64 a4)), vN, vN, vN, vN, vN, vN, vN, vN, vN, vN, vN, vN, vN, vN, vN, vN, vN, vN, vN, vN, vN, vN, vN, vN, vN, vN, vN, vN, vN, vN, vN, vN, vN, vN, vN, vN, vN, vN, vN, vN, vN, vN, vN, vN, vN, vN, vN, vN, vN, vN, vN, vN, vN, vN] [(.tip 4 a5)]) (K (.exit 0) [(.d (.str a1)), vN, vN, vN, vN, (.gs 0 4 a2 a3), (.d (.int .i64 a4)), vN, vN, vN, vN, vN, vN, vN, vN, vN, vN, vN, vN, vN, vN, vN, vN, vN, vN, vN, vN, vN, vN, vN, vN, vN, vN, vN, vN, vN, vN, vN, vN, vN, vN, vN, vN, vN, vN, vN, vN, vN, vN, vN, vN, vN, vN, vN, vN, vN, vN, vN, vN] [(.tip 4 a5)]) :=
  (hS10_2 n d a1 a2 a3 a4 a5 K).trans (by simp only [tL10_4, tS10_5]; kernel_rfl)

def L10_6 {ρ : Type} (n : Nat) : Nat → (List UInt8) → Nat → (List D) → Int → Nat → (Int → Int → Nat → Option ρ) → (Nat → (List D) → Int → Nat → Option ρ) → Option ρ
  | 0, _, _, _, _, _, _, _ => none
  | m + 1, a1, a2, a3, a4, a5, k0, k1 => S10_2 n a1 a2 a3 a4 a5 (fun x1 x2 x3 x4 => L10_6 n m a1 x1 x2 x3 x4 k0 k1) (fun x1 => k0 x1 a4 a5) (k1 a2 a3 a4 a5)

theorem tL10_6 {ρ : Type} (n d : Nat) (K : Ex → List V → List KB → Option ρ) : ∀ (m : Nat) (a1 : List UInt8) (a2 : Nat) (a3 : List D) (a4 : Int) (a5 : Nat),
    kLoop (kC (ck10 n (d + 7)) (sp10 n) n c10_57) ti10_58 [] m [(.d (.str a1)), vN, vN, vN, vN, (.gs 0 4 a2 a3), (.d (.int .i64 a4)), vN, vN, vN, vN, vN, vN, vN, vN, vN, vN, vN, vN, vN, vN, vN, vN, vN, vN, vN, vN, vN, vN, vN, vN, vN, vN, vN, vN, vN, vN, vN, vN, vN, vN, vN, vN, vN, vN, vN, vN, vN, vN, vN, vN, vN, vN, vN, vN, vN, vN, vN, vN] [(.tip 4 a5)] K =
    L10_6 n m a1 a2 a3 a4 a5 (fun (q1 : Int) (q2 : Int) (q3 : Nat) => K .ret [vN, vN, (.d .nils), (.d (.int .i64 q1)), (.d (.int .i64 q2)), vN, vN, vN, vN, vN, vN, vN, vN, vN, vN, vN, vN, vN, vN, vN, vN, vN, vN, vN, vN, vN, vN, vN, vN, vN, vN, vN, vN, vN, vN, vN, vN, vN, vN, vN, vN, vN, vN, vN, vN, vN, vN, vN, vN, vN, vN, vN, vN, vN, vN, vN, vN, vN, vN] [(.tip 4 q3)]) (fun (q1 : Nat) (q2 : List D) (q3 : Int) (q4 : Nat) => K (.exit 0) [(.d (.str a1)), vN, vN, vN, vN, (.gs 0 4 q1 q2), (.d (.int .i64 q3)), vN, vN, vN, vN, vN, vN, vN, vN, vN, vN, vN, vN, vN, vN, vN, vN, vN, vN, vN, vN, vN, vN, vN, vN, vN, vN, vN, vN, vN, vN, vN, vN, vN, vN, vN, vN, vN, vN, vN, vN, vN, vN, vN, vN, vN, vN, vN, vN, vN, vN, vN, vN] [(.tip 4 q4)]) := by
  intro m
  induction m with
  | zero => intros; kernel_rfl
  | succ m ih =>
    intro a1 a2 a3 a4 a5
    exact (show _ = kC (ck10 n (d + 7)) (sp10 n) n c10_57 [(.d (.str a1)), vN, vN, vN, vN, (.gs 0 4 a2 a3), (.d (.int .i64 a4)), vN, vN, vN, vN, vN, vN, vN, vN, vN, vN, vN, vN, vN, vN, vN, vN, vN, vN, vN, vN, vN, vN, vN, vN, vN, vN, vN, vN, vN, vN, vN, vN, vN, vN, vN, vN, vN, vN, vN, vN, vN, vN, vN, vN, vN, vN, vN, vN, vN, vN, vN, vN] [(.tip 4 a5)] (tidyK ti10_58 [] 1  (seqK (kLoop (kC (ck10 n (d + 7)) (sp10 n) n c10_57) ti10_58 [] m) K)) from by kernel_rfl).trans ((tS10_2 n d a1 a2 a3 a4 a5 _).trans (by simp only [seqK_nor, ih, seqK_exit, seqK_ret]; kernel_rfl))

def S10_7 {ρ : Type} (n : Nat) (a1 : Int) (a2 : Int) (a3 : Nat) (k0 : Option ρ) : Option ρ :=
  k0

theorem tS10_7 {ρ : Type} (n d : Nat) (a1 : Int) (a2 : Int) (a3 : Nat) (K : Out → List KB → Option ρ) :
    (blockK 0 (seqK (kC (ck10 n (d + 7)) (sp10 n) n c10_62) (endK [(.tmp 2 (some 4)), (.tmp 3 none), (.tmp 4 none)] 0 K))) .ret [vN, vN, (.d .nils), (.d (.int .i64 a1)), (.d (.int .i64 a2)), vN, vN, vN, vN, vN, vN, vN, vN, vN, vN, vN, vN, vN, vN, vN, vN, vN, vN, vN, vN, vN, vN, vN, vN, vN, vN, vN, vN, vN, vN, vN, vN, vN, vN, vN, vN, vN, vN, vN, vN, vN, vN, vN, vN, vN, vN, vN, vN, vN, vN, vN, vN, vN, vN] [(.tip 4 a3)] =
    S10_7 n a1 a2 a3 (K (.ret (.d (.tup [(.lst 4 0 [] true), (.int .i64 a1), (.int .i64 a2)]))) []) := by kernel_rfl

def S10_8 {ρ : Type} (n : Nat) (a1 : List UInt8) (a2 : Nat) (a3 : List D) (a4 : Int) (a5 : Nat) (k0 : Option ρ) : Option ρ :=
  k0

theorem tS10_8 {ρ : Type} (n d : Nat) (a1 : List UInt8) (a2 : Nat) (a3 : List D) (a4 : Int) (a5 : Nat) (K : Out → List KB → Option ρ) :
    (blockK 0 (seqK (kC (ck10 n (d + 7)) (sp10 n) n c10_62) (endK [(.tmp 2 (some 4)), (.tmp 3 none), (.tmp 4 none)] 0 K))) (.exit 0) [(.d (.str a1)), vN, vN, vN, vN, (.gs 0 4 a2 a3), (.d (.int .i64 a4)), vN, vN, vN, vN, vN, vN, vN, vN, vN, vN, vN, vN, vN, vN, vN, vN, vN, vN, vN, vN, vN, vN, vN, vN, vN, vN, vN, vN, vN, vN, vN, vN, vN, vN, vN, vN, vN, vN, vN, vN, vN, vN, vN, vN, vN, vN, vN, vN, vN, vN, vN, vN] [(.tip 4 a5)] =
    S10_8 n a1 a2 a3 a4 a5 (K (.ret (.d (.tup [(.lst 4 a2 a3 false), (.int .i64 (0)), (.int .i64 (0))]))) []) := by kernel_rfl

def S10_1 {ρ : Type} (n : Nat) (a1 : List UInt8) (k0 : Nat → (List D) → Bool → Int → Int → Option ρ) : Option ρ :=
  cond (decide ((List.length a1 : Int) > (8000 : Int))) (k0 (0 : Nat) ([] : List D) true (2 : Int) (0 : Int)) (L10_6 n n a1 (0 : Nat) ([] : List D) (0 : Int) (0 : Nat) (fun x1 x2 x3 => S10_7 n x1 x2 x3 (k0 (0 : Nat) ([] : List D) true x1 x2)) (fun x4 x5 x6 x7 => S10_8 n a1 x4 x5 x6 x7 (k0 x4 x5 false (0 : Int) (0 : Int))))

theorem hS10_1 {ρ : Type} (n d : Nat) (a1 : List UInt8) (K : Out → List KB → Option ρ) :
    kC (ck10 n (d + 7)) (sp10 n) n c10_69 [(.d (.str a1)), vU, vU, vU, vU, vU, vU, vU, vU, vU, vU, vU, vU, vU, vU, vU, vU, vU, vU, vU, vU, vU, vU, vU, vU, vU, vU, vU, vU, vU, vU, vU, vU, vU, vU, vU, vU, vU, vU, vU, vU, vU, vU, vU, vU, vU, vU, vU, vU, vU, vU, vU, vU, vU, vU, vU, vU, vU, vU] [] (endK [(.tmp 2 (some 4)), (.tmp 3 none), (.tmp 4 none)] 0 K) =
    cond (decide ((List.length a1 : Int) > (8000 : Int))) (K (.ret (.d (.tup [(.lst 4 0 [] true), (.int .i64 (2)), (.int .i64 (0))]))) []) (kLoop (kC (ck10 n (d + 7)) (sp10 n) n c10_57) ti10_58 [] n [(.d (.str a1)), vN, vN, vN, vN, (.gs 0 4 0 []), (.d (.int .i64 (0))), vN, vN, vN, vN, vN, vN, vN, vN, vN, vN, vN, vN, vN, vN, vN, vN, vN, vN, vN, vN, vN, vN, vN, vN, vN, vN, vN, vN, vN, vN, vN, vN, vN, vN, vN, vN, vN, vN, vN, vN, vN, vN, vN, vN, vN, vN, vN, vN, vN, vN, vN, vN] [(.tip 4 0)] (blockK 0 (seqK (kC (ck10 n (d + 7)) (sp10 n) n c10_62) (endK [(.tmp 2 (some 4)), (.tmp 3 none), (.tmp 4 none)] 0 K)))) := by kernel_rfl

theorem tS10_1 {ρ : Type} (n d : Nat) (a1 : List UInt8) (K : Out → List KB → Option ρ) :
    kC (ck10 n (d + 7)) (sp10 n) n c10_69 [(.d (.str a1)), vU, vU, vU, vU, vU, vU, vU, vU, vU, vU, vU, vU, vU, vU, vU, vU, vU, vU, vU, vU, vU, vU, vU, vU, vU, vU, vU, vU, vU, vU, vU, vU, vU, vU, vU, vU, vU, vU, vU, vU, vU, vU, vU, vU, vU, vU, vU, vU, vU, vU, vU, vU, vU, vU, vU, vU, vU, vU] [] (endK [(.tmp 2 (some 4)), (.tmp 3 none), (.tmp 4 none)] 0 K) =
    S10_1 n a1 (fun (q1 : Nat) (q2 : List D) (q3 : Bool) (q4 : Int) (q5 : Int) => K (.ret (.d (.tup [(.lst 4 q1 q2 q3), (.int .i64 q4), (.int .i64 q5)]))) []) :=
  (hS10_1 n d a1 K).trans (by simp only [tL10_6, tS10_7, tS10_8]; kernel_rfl)

theorem tF10 {ρ : Type} (n d : Nat) (b1 : List UInt8) (K : Out → List KB → Option ρ) :
    ck10 n (d + 8) 10 [.d (.str b1)] [] K =
    S10_1 n b1 (fun (q1 : Nat) (q2 : List D) (q3 : Bool) (q4 : Int) (q5 : Int) => K (.ret (.d (.tup [(.lst 4 q1 q2 q3), (.int .i64 q4), (.int .i64 q5)]))) []) :=
  (show _ = kC (ck10 n (d + 7)) (sp10 n) n c10_69 [(.d (.str b1)), vU, vU, vU, vU, vU, vU, vU, vU, vU, vU, vU, vU, vU, vU, vU, vU, vU, vU, vU, vU, vU, vU, vU, vU, vU, vU, vU, vU, vU, vU, vU, vU, vU, vU, vU, vU, vU, vU, vU, vU, vU, vU, vU, vU, vU, vU, vU, vU, vU, vU, vU, vU, vU, vU, vU, vU, vU, vU] [] (endK [(.tmp 2 (some 4)), (.tmp 3 none), (.tmp 4 none)] 0 K) from by kernel_rfl).trans (tS10_1 n d b1 K)

def F10 (n : Nat) : Ev.Fn
  | [(.str b1)] => S10_1 n b1 (fun (q1 : Nat) (q2 : List D) (q3 : Bool) (q4 : Int) (q5 : Int) => some (.tup [(.lst 4 q1 q2 q3), (.int .i64 q4), (.int .i64 q5)]))
  | _ => none

theorem p10 (n : Nat) : Pure Tryd.prog YtgkjmdbjncnlpaaDoor.GL 10 (F10 n) := by
  refine pure_k bodyOK (spok10 n) (mkSp_S _) mix (callable_of (by kernel_rfl)) n 8 ?_
  intro ds x h
  unfold F10 at h
  split at h
  · rename_i b1
    rw [← h]
    exact (tF10 n 0 b1 fin).trans (by kernel_rfl)
  · cases h

def spl22 (n : Nat) : List (FuncId × Ev.Fn) := [(24, F24 n), (25, F25 n)]

def sp22 (n : Nat) : SpecT := mkSp isS (spl22 n)

theorem spok22 (n : Nat) : SpecOK Tryd.prog YtgkjmdbjncnlpaaDoor.GL (sp22 n) := mkSp_ok callS (all_cons (p24 n) (all_cons (p25 n) all_nil))

def ck22 {ρ : Type} (n d : Nat) : CallK ρ := kF body (sp22 n) n d

def S22_2 {ρ : Type} (n : Nat) (a1 : List UInt8) (a2 : Int) (a3 : Int) (k0 : Option ρ) (k1 : Int → Int → Option ρ) (k2 : Option ρ) : Option ρ :=
  cond (decide (a3 < (List.length a1 : Int))) (ass (decide ((0 : Int) ≤ a3)) (gU a1 (Int.toNat a3) fun x1 => cond (decide ((IntKind.i64.wrap ((IntKind.i64.wrap ((10 : Int) * a2)) + (IntKind.i64.wrap (IntKind.u8.wrap ((UInt8.toNat x1 : Int) - (48 : Int)))))) > (1000000 : Int))) (k0) (k1 (IntKind.i64.wrap ((IntKind.i64.wrap ((10 : Int) * a2)) + (IntKind.i64.wrap (IntKind.u8.wrap ((UInt8.toNat x1 : Int) - (48 : Int)))))) (IntKind.i64.wrap (a3 + (1 : Int)))))) (k2)

theorem tS22_2 {ρ : Type} (n d : Nat) (a1 : List UInt8) (a2 : Int) (a3 : Int) (K : Ex → List V → List KB → Option ρ) :
    kC (ck22 n (d + 7)) (sp22 n) n c22_50 [(.d (.str a1)), vN, (.ptr 0 0), vN, vN, (.d (.int .i64 a2)), (.d (.int .i64 a3)), vN, vN, vN, vN, vN, vN, vN, vN, vN, vN, vN, vN, vN, vN, vN, vN, vN, vN, vN, vN, vN, vN, vN, vN, vN, vN, vN, vN, vN, vN, vN, vN, vN, vN, vN, vN, vN, vN, vN, vN, vN, vN] [(.cells [(.d (.int .i64 (0))), (.d (.str [])), (.d (.int .i64 (0))), (.d (.int .i64 (0)))])] (tidyK ti22_51 [] 1 K) =
    S22_2 n a1 a2 a3 (K .ret [vN, vN, (.ptr 0 0), (.d (.int .i64 (3))), vN, vN, vN, vN, vN, vN, vN, vN, vN, vN, vN, vN, vN, vN, vN, vN, vN, vN, vN, vN, vN, vN, vN, vN, vN, vN, vN, vN, vN, vN, vN, vN, vN, vN, vN, vN, vN, vN, vN, vN, vN, vN, vN, vN, vN] [(.cells [(.d (.int .i64 (0))), (.d (.str [])), (.d (.int .i64 (0))), (.d (.int .i64 (0)))])]) (fun (q1 : Int) (q2 : Int) => K .nor [(.d (.str a1)), vN, (.ptr 0 0), vN, vN, (.d (.int .i64 q1)), (.d (.int .i64 q2)), vN, vN, vN, vN, vN, vN, vN, vN, vN, vN, vN, vN, vN, vN, vN, vN, vN, vN, vN, vN, vN, vN, vN, vN, vN, vN, vN, vN, vN, vN, vN, vN, vN, vN, vN, vN, vN, vN, vN, vN, vN, vN] [(.cells [(.d (.int .i64 (0))), (.d (.str [])), (.d (.int .i64 (0))), (.d (.int .i64 (0)))])]) (K (.exit 0) [(.d (.str a1)), vN, (.ptr 0 0), vN, vN, (.d (.int .i64 a2)), (.d (.int .i64 a3)), vN, vN, vN, vN, vN, vN, vN, vN, vN, vN, vN, vN, vN, vN, vN, vN, vN, vN, vN, vN, vN, vN, vN, vN, vN, vN, vN, vN, vN, vN, vN, vN, vN, vN, vN, vN, vN, vN, vN, vN, vN, vN] [(.cells [(.d (.int .i64 (0))), (.d (.str [])), (.d (.int .i64 (0))), (.d (.int .i64 (0)))])]) := by kernel_rfl

def L22_3 {ρ : Type} (n : Nat) : Nat → (List UInt8) → Int → Int → Option ρ → (Int → Int → Option ρ) → Option ρ
  | 0, _, _, _, _, _ => none
  | m + 1, a1, a2, a3, k0, k1 => S22_2 n a1 a2 a3 (k0) (fun x1 x2 => L22_3 n m a1 x1 x2 k0 k1) (k1 a2 a3)

theorem tL22_3 {ρ : Type} (n d : Nat) (K : Ex → List V → List KB → Option ρ) : ∀ (m : Nat) (a1 : List UInt8) (a2 : Int) (a3 : Int),
    kLoop (kC (ck22 n (d + 7)) (sp22 n) n c22_50) ti22_51 [] m [(.d (.str a1)), vN, (.ptr 0 0), vN, vN, (.d (.int .i64 a2)), (.d (.int .i64 a3)), vN, vN, vN, vN, vN, vN, vN, vN, vN, vN, vN, vN, vN, vN, vN, vN, vN, vN, vN, vN, vN, vN, vN, vN, vN, vN, vN, vN, vN, vN, vN, vN, vN, vN, vN, vN, vN, vN, vN, vN, vN, vN] [(.cells [(.d (.int .i64 (0))), (.d (.str [])), (.d (.int .i64 (0))), (.d (.int .i64 (0)))])] K =
    L22_3 n m a1 a2 a3 (K .ret [vN, vN, (.ptr 0 0), (.d (.int .i64 (3))), vN, vN, vN, vN, vN, vN, vN, vN, vN, vN, vN, vN, vN, vN, vN, vN, vN, vN, vN, vN, vN, vN, vN, vN, vN, vN, vN, vN, vN, vN, vN, vN, vN, vN, vN, vN, vN, vN, vN, vN, vN, vN, vN, vN, vN] [(.cells [(.d (.int .i64 (0))), (.d (.str [])), (.d (.int .i64 (0))), (.d (.int .i64 (0)))])]) (fun (q1 : Int) (q2 : Int) => K (.exit 0) [(.d (.str a1)), vN, (.ptr 0 0), vN, vN, (.d (.int .i64 q1)), (.d (.int .i64 q2)), vN, vN, vN, vN, vN, vN, vN, vN, vN, vN, vN, vN, vN, vN, vN, vN, vN, vN, vN, vN, vN, vN, vN, vN, vN, vN, vN, vN, vN, vN, vN, vN, vN, vN, vN, vN, vN, vN, vN, vN, vN, vN] [(.cells [(.d (.int .i64 (0))), (.d (.str [])), (.d (.int .i64 (0))), (.d (.int .i64 (0)))])]) := by
  intro m
  induction m with
  | zero => intros; kernel_rfl
  | succ m ih =>
    intro a1 a2 a3
    exact (show _ = kC (ck22 n (d + 7)) (sp22 n) n c22_50 [(.d (.str a1)), vN, (.ptr 0 0), vN, vN, (.d (.int .i64 a2)), (.d (.int .i64 a3)), vN, vN, vN, vN, vN, vN, vN, vN, vN, vN, vN, vN, vN, vN, vN, vN, vN, vN, vN, vN, vN, vN, vN, vN, vN, vN, vN, vN, vN, vN, vN, vN, vN, vN, vN, vN, vN, vN, vN, vN, vN, vN] [(.cells [(.d (.int .i64 (0))), (.d (.str [])), (.d (.int .i64 (0))), (.d (.int .i64 (0)))])] (tidyK ti22_51 [] 1  (seqK (kLoop (kC (ck22 n (d + 7)) (sp22 n) n c22_50) ti22_51 [] m) K)) from by kernel_rfl).trans ((tS22_2 n d a1 a2 a3 _).trans (by simp only [seqK_nor, ih, seqK_exit, seqK_ret]; kernel_rfl))

def S22_4 {ρ : Type} (n : Nat) (k0 : Option ρ) : Option ρ :=
  k0

theorem tS22_4 {ρ : Type} (n d : Nat) (K : Out → List KB → Option ρ) :
    (blockK 0 (seqK (kC (ck22 n (d + 7)) (sp22 n) n c22_56) (endK [(.cell 2 true 4), (.tmp 3 none)] 0 K))) .ret [vN, vN, (.ptr 0 0), (.d (.int .i64 (3))), vN, vN, vN, vN, vN, vN, vN, vN, vN, vN, vN, vN, vN, vN, vN, vN, vN, vN, vN, vN, vN, vN, vN, vN, vN, vN, vN, vN, vN, vN, vN, vN, vN, vN, vN, vN, vN, vN, vN, vN, vN, vN, vN, vN, vN] [(.cells [(.d (.int .i64 (0))), (.d (.str [])), (.d (.int .i64 (0))), (.d (.int .i64 (0)))])] =
    S22_4 n (K (.ret (.d (.tup [(.agg [(.int .i64 (0)), (.str []), (.int .i64 (0)), (.int .i64 (0))]), (.int .i64 (3))]))) []) := by kernel_rfl

def S22_5 {ρ : Type} (n : Nat) (a1 : List UInt8) (a2 : Int) (a3 : Int) (k0 : Option ρ) : Option ρ :=
  k0

theorem tS22_5 {ρ : Type} (n d : Nat) (a1 : List UInt8) (a2 : Int) (a3 : Int) (K : Out → List KB → Option ρ) :
    (blockK 0 (seqK (kC (ck22 n (d + 7)) (sp22 n) n c22_56) (endK [(.cell 2 true 4), (.tmp 3 none)] 0 K))) (.exit 0) [(.d (.str a1)), vN, (.ptr 0 0), vN, vN, (.d (.int .i64 a2)), (.d (.int .i64 a3)), vN, vN, vN, vN, vN, vN, vN, vN, vN, vN, vN, vN, vN, vN, vN, vN, vN, vN, vN, vN, vN, vN, vN, vN, vN, vN, vN, vN, vN, vN, vN, vN, vN, vN, vN, vN, vN, vN, vN, vN, vN, vN] [(.cells [(.d (.int .i64 (0))), (.d (.str [])), (.d (.int .i64 (0))), (.d (.int .i64 (0)))])] =
    S22_5 n a1 a2 a3 (K (.ret (.d (.tup [(.agg [(.int .i64 (2)), (.str []), (.int .i64 a2), (.int .i64 (0))]), (.int .i64 (0))]))) []) := by kernel_rfl

def S22_1 {ρ : Type} (n : Nat) (a1 : List UInt8) (k0 : Int → (List UInt8) → Int → Int → Option ρ) : Option ρ :=
  gU a1 0 fun x1 => (F24 n [(.int .u8 (UInt8.toNat x1 : Int))]).bind fun x2 => gB x2 fun x3 => cond x3 (cond (decide ((List.length a1 : Int) > (12 : Int))) (k0 (0 : Int) ([] : List UInt8) (0 : Int) (3 : Int)) (k0 (1 : Int) a1 (0 : Int) (0 : Int))) ((F25 n [(.int .u8 (UInt8.toNat x1 : Int))]).bind fun x4 => gB x4 fun x5 => cond (!x5) (k0 (3 : Int) a1 (0 : Int) (0 : Int)) (cond (decide ((List.length a1 : Int) > (1 : Int))) (cond ((UInt8.toNat x1 : Int) == (48 : Int)) (k0 (0 : Int) ([] : List UInt8) (0 : Int) (7 : Int)) (L22_3 n n a1 (0 : Int) (0 : Int) (S22_4 n (k0 (0 : Int) ([] : List UInt8) (0 : Int) (3 : Int))) (fun x6 x7 => S22_5 n a1 x6 x7 (k0 (2 : Int) ([] : List UInt8) x6 (0 : Int))))) (L22_3 n n a1 (0 : Int) (0 : Int) (S22_4 n (k0 (0 : Int) ([] : List UInt8) (0 : Int) (3 : Int))) (fun x8 x9 => S22_5 n a1 x8 x9 (k0 (2 : Int) ([] : List UInt8) x8 (0 : Int))))))

theorem hS22_1 {ρ : Type} (n d : Nat) (a1 : List UInt8) (K : Out → List KB → Option ρ) :
    kC (ck22 n (d + 7)) (sp22 n) n c22_63 [(.d (.str a1)), vU, vU, vU, vU, vU, vU, vU, vU, vU, vU, vU, vU, vU, vU, vU, vU, vU, vU, vU, vU, vU, vU, vU, vU, vU, vU, vU, vU, vU, vU, vU, vU, vU, vU, vU, vU, vU, vU, vU, vU, vU, vU, vU, vU, vU, vU, vU, vU] [] (endK [(.cell 2 true 4), (.tmp 3 none)] 0 K) =
    gU a1 0 fun x1 => (F24 n [(.int .u8 (UInt8.toNat x1 : Int))]).bind fun x2 => gB x2 fun x3 => cond x3 (cond (decide ((List.length a1 : Int) > (12 : Int))) (K (.ret (.d (.tup [(.agg [(.int .i64 (0)), (.str []), (.int .i64 (0)), (.int .i64 (0))]), (.int .i64 (3))]))) []) (K (.ret (.d (.tup [(.agg [(.int .i64 (1)), (.str a1), (.int .i64 (0)), (.int .i64 (0))]), (.int .i64 (0))]))) [])) ((F25 n [(.int .u8 (UInt8.toNat x1 : Int))]).bind fun x4 => gB x4 fun x5 => cond (!x5) (K (.ret (.d (.tup [(.agg [(.int .i64 (3)), (.str a1), (.int .i64 (0)), (.int .i64 (0))]), (.int .i64 (0))]))) []) (cond (decide ((List.length a1 : Int) > (1 : Int))) (cond ((UInt8.toNat x1 : Int) == (48 : Int)) (K (.ret (.d (.tup [(.agg [(.int .i64 (0)), (.str []), (.int .i64 (0)), (.int .i64 (0))]), (.int .i64 (7))]))) []) (kLoop (kC (ck22 n (d + 7)) (sp22 n) n c22_50) ti22_51 [] n [(.d (.str a1)), vN, (.ptr 0 0), vN, vN, (.d (.int .i64 (0))), (.d (.int .i64 (0))), vN, vN, vN, vN, vN, vN, vN, vN, vN, vN, vN, vN, vN, vN, vN, vN, vN, vN, vN, vN, vN, vN, vN, vN, vN, vN, vN, vN, vN, vN, vN, vN, vN, vN, vN, vN, vN, vN, vN, vN, vN, vN] [(.cells [(.d (.int .i64 (0))), (.d (.str [])), (.d (.int .i64 (0))), (.d (.int .i64 (0)))])] (blockK 0 (seqK (kC (ck22 n (d + 7)) (sp22 n) n c22_56) (endK [(.cell 2 true 4), (.tmp 3 none)] 0 K))))) (kLoop (kC (ck22 n (d + 7)) (sp22 n) n c22_50) ti22_51 [] n [(.d (.str a1)), vN, (.ptr 0 0), vN, vN, (.d (.int .i64 (0))), (.d (.int .i64 (0))), vN, vN, vN, vN, vN, vN, vN, vN, vN, vN, vN, vN, vN, vN, vN, vN, vN, vN, vN, vN, vN, vN, vN, vN, vN, vN, vN, vN, vN, vN, vN, vN, vN, vN, vN, vN, vN, vN, vN, vN, vN, vN] [(.cells [(.d (.int .i64 (0))), (.d (.str [])), (.d (.int .i64 (0))), (.d (.int .i64 (0)))])] (blockK 0 (seqK (kC (ck22 n (d + 7)) (sp22 n) n c22_56) (endK [(.cell 2 true 4), (.tmp 3 none)] 0 K)))))) := by kernel_rfl

theorem tS22_1 {ρ : Type} (n d : Nat) (a1 : List UInt8) (K : Out → List KB → Option ρ) :
    kC (ck22 n (d + 7)) (sp22 n) n c22_63 [(.d (.str a1)), vU, vU, vU, vU, vU, vU, vU, vU, vU, vU, vU, vU, vU, vU, vU, vU, vU, vU, vU, vU, vU, vU, vU, vU, vU, vU, vU, vU, vU, vU, vU, vU, vU, vU, vU, vU, vU, vU, vU, vU, vU, vU, vU, vU, vU, vU, vU, vU] [] (endK [(.cell 2 true 4), (.tmp 3 none)] 0 K) =
    S22_1 n a1 (fun (q1 : Int) (q2 : List UInt8) (q3 : Int) (q4 : Int) => K (.ret (.d (.tup [(.agg [(.int .i64 q1), (.str q2), (.int .i64 q3), (.int .i64 (0))]), (.int .i64 q4)]))) []) :=
  (hS22_1 n d a1 K).trans (by simp only [tL22_3, tS22_4, tS22_5]; kernel_rfl)

theorem tF22 {ρ : Type} (n d : Nat) (b1 : List UInt8) (K : Out → List KB → Option ρ) :
    ck22 n (d + 8) 22 [.d (.str b1)] [] K =
    S22_1 n b1 (fun (q1 : Int) (q2 : List UInt8) (q3 : Int) (q4 : Int) => K (.ret (.d (.tup [(.agg [(.int .i64 q1), (.str q2), (.int .i64 q3), (.int .i64 (0))]), (.int .i64 q4)]))) []) :=
  (show _ = kC (ck22 n (d + 7)) (sp22 n) n c22_63 [(.d (.str b1)), vU, vU, vU, vU, vU, vU, vU, vU, vU, vU, vU, vU, vU, vU, vU, vU, vU, vU, vU, vU, vU, vU, vU, vU, vU, vU, vU, vU, vU, vU, vU, vU, vU, vU, vU, vU, vU, vU, vU, vU, vU, vU, vU, vU, vU, vU, vU, vU] [] (endK [(.cell 2 true 4), (.tmp 3 none)] 0 K) from by kernel_rfl).trans (tS22_1 n d b1 K)

def F22 (n : Nat) : Ev.Fn
  | [(.str b1)] => S22_1 n b1 (fun (q1 : Int) (q2 : List UInt8) (q3 : Int) (q4 : Int) => some (.tup [(.agg [(.int .i64 q1), (.str q2), (.int .i64 q3), (.int .i64 (0))]), (.int .i64 q4)]))
  | _ => none

theorem p22 (n : Nat) : Pure Tryd.prog YtgkjmdbjncnlpaaDoor.GL 22 (F22 n) := by
  refine pure_k bodyOK (spok22 n) (mkSp_S _) mix (callable_of (by kernel_rfl)) n 8 ?_
  intro ds x h
  unfold F22 at h
  split at h
  · rename_i b1
    rw [← h]
    exact (tF22 n 0 b1 fin).trans (by kernel_rfl)
  · cases h

def spl11 (n : Nat) : List (FuncId × Ev.Fn) := [(14, F14 n), (16, F16 n), (22, F22 n)]

def sp11 (n : Nat) : SpecT := mkSp isS (spl11 n)

theorem spok11 (n : Nat) : SpecOK Tryd.prog YtgkjmdbjncnlpaaDoor.GL (sp11 n) := mkSp_ok callS (all_cons (p14 n) (all_cons (p16 n) (all_cons (p22 n) all_nil)))

def ck11 {ρ : Type} (n d : Nat) : CallK ρ := kF body (sp11 n) n d

def S11_2 {ρ : Type} (n : Nat) (a1 : List UInt8) (a2 : Nat) (a3 : List D) (a4 : Int) (a5 : Nat) (k0 : Int → Option ρ) (k1 : Nat → (List D) → Int → Option ρ) (k2 : Option ρ) : Option ρ :=
  cond (decide (a4 < (List.length a1 : Int))) (cond ((a2 : Int) == (2000 : Int)) (k0 (2 : Int)) ((F16 n [(.str a1), (.int .i64 a4)]).bind fun x1 => gI .i64 x1 fun x2 => cond (x2 == a4) (k0 (7 : Int)) (ass ((decide ((0 : Int) ≤ x2) && decide (x2 ≤ ((List.length a1) : Int)))) (ass ((decide ((0 : Int) ≤ a4) && decide (a4 ≤ ((Int.toNat x2) : Int)))) ((F22 n [(.str (List.take ((Int.toNat x2) - (Int.toNat a4)) (List.drop (Int.toNat a4) a1)))]).bind fun x3 => gT x3 fun x4 => gC x4 fun x5 x6 => gA x5 fun x7 => gC x7 fun x8 x9 => gI .i64 x8 fun x10 => gC x9 fun x11 x12 => gS x11 fun x13 => gC x12 fun x14 x15 => gI .i64 x14 fun x16 => gC x15 fun x17 x18 => gI .i64 x17 fun x19 => gE x18 (gC x6 fun x20 x21 => gI .i64 x20 fun x22 => gE x21 (cond (x22 != (0 : Int)) (k0 x22) (ass ((a5 == a2 && (decide ((a2 + 1) * 40 ≤ 140737488355328) && decide ((a2 + 1) ≤ 9223372036854775807)))) ((F14 n [(.str a1), (.int .i64 x2)]).bind fun x23 => gI .i64 x23 fun x24 => k1 (a2 + 1) (a3 ++ [(.int .i64 x10), (.str x13), (.int .i64 x16), (.int .i64 a4)]) x24))))))))) (k2)

theorem tS11_2 {ρ : Type} (n d : Nat) (a1 : List UInt8) (a2 : Nat) (a3 : List D) (a4 : Int) (a5 : Nat) (K : Ex → List V → List KB → Option ρ) :
    kC (ck11 n (d + 7)) (sp11 n) n c11_49 [(.d (.str a1)), vN, vN, vN, vN, (.gs 0 4 a2 a3), (.d (.int .i64 a4)), vN, vN, vN, vN, vN, vN, vN, vN, vN, vN, vN, vN, vN, vN, vN, vN, vN, vN, vN, vN, vN, vN, vN, vN, vN, vN, vN, vN, vN, vN, vN, vN, vN, vN, vN, vN, vN, vN, vN, vN, vN, vN, vN, vN, vN] [(.tip 4 a5)] (tidyK ti11_50 [] 1 K) =
    S11_2 n a1 a2 a3 a4 a5 (fun (q1 : Int) => K .ret [vN, vN, (.d .nils), (.d (.int .i64 q1)), (.d (.int .i64 a4)), vN, vN, vN, vN, vN, vN, vN, vN, vN, vN, vN, vN, vN, vN, vN, vN, vN, vN, vN, vN, vN, vN, vN, vN, vN, vN, vN, vN, vN, vN, vN, vN, vN, vN, vN, vN, vN, vN, vN, vN, vN, vN, vN, vN, vN, vN, vN] [(.tip 4 a5)]) (fun (q1 : Nat) (q2 : List D) (q3 : Int) => K .nor [(.d (.str a1)), vN, vN, vN, vN, (.gs 0 4 q1 q2), (.d (.int .i64 q3)), vN, vN, vN, vN, vN, vN, vN, vN, vN, vN, vN, vN, vN, vN, vN, vN, vN, vN, vN, vN, vN, vN, vN, vN, vN, vN, vN, vN, vN, vN, vN, vN, vN, vN, vN, vN, vN, vN, vN, vN, vN, vN, vN, vN, vN] [(.tip 4 q1)]) (K (.exit 0) [(.d (.str a1)), vN, vN, vN, vN, (.gs 0 4 a2 a3), (.d (.int .i64 a4)), vN, vN, vN, vN, vN, vN, vN, vN, vN, vN, vN, vN, vN, vN, vN, vN, vN, vN, vN, vN, vN, vN, vN, vN, vN, vN, vN, vN, vN, vN, vN, vN, vN, vN, vN, vN, vN, vN, vN, vN, vN, vN, vN, vN, vN] [(.tip 4 a5)]) := by kernel_rfl

def L11_3 {ρ : Type} (n : Nat) : Nat → (List UInt8) → Nat → (List D) → Int → Nat → (Int → Int → Nat → Option ρ) → (Nat → (List D) → Int → Nat → Option ρ) → Option ρ
  | 0, _, _, _, _, _, _, _ => none
  | m + 1, a1, a2, a3, a4, a5, k0, k1 => S11_2 n a1 a2 a3 a4 a5 (fun x1 => k0 x1 a4 a5) (fun x1 x2 x3 => L11_3 n m a1 x1 x2 x3 x1 k0 k1) (k1 a2 a3 a4 a5)

theorem tL11_3 {ρ : Type} (n d : Nat) (K : Ex → List V → List KB → Option ρ) : ∀ (m : Nat) (a1 : List UInt8) (a2 : Nat) (a3 : List D) (a4 : Int) (a5 : Nat),
    kLoop (kC (ck11 n (d + 7)) (sp11 n) n c11_49) ti11_50 [] m [(.d (.str a1)), vN, vN, vN, vN, (.gs 0 4 a2 a3), (.d (.int .i64 a4)), vN, vN, vN, vN, vN, vN, vN, vN, vN, vN, vN, vN, vN, vN, vN, vN, vN, vN, vN, vN, vN, vN, vN, vN, vN, vN, vN, vN, vN, vN, vN, vN, vN, vN, vN, vN, vN, vN, vN, vN, vN, vN, vN, vN, vN] [(.tip 4 a5)] K =
    L11_3 n m a1 a2 a3 a4 a5 (fun (q1 : Int) (q2 : Int) (q3 : Nat) => K .ret [vN, vN, (.d .nils), (.d (.int .i64 q1)), (.d (.int .i64 q2)), vN, vN, vN, vN, vN, vN, vN, vN, vN, vN, vN, vN, vN, vN, vN, vN, vN, vN, vN, vN, vN, vN, vN, vN, vN, vN, vN, vN, vN, vN, vN, vN, vN, vN, vN, vN, vN, vN, vN, vN, vN, vN, vN, vN, vN, vN, vN] [(.tip 4 q3)]) (fun (q1 : Nat) (q2 : List D) (q3 : Int) (q4 : Nat) => K (.exit 0) [(.d (.str a1)), vN, vN, vN, vN, (.gs 0 4 q1 q2), (.d (.int .i64 q3)), vN, vN, vN, vN, vN, vN, vN, vN, vN, vN, vN, vN, vN, vN, vN, vN, vN, vN, vN, vN, vN, vN, vN, vN, vN, vN, vN, vN, vN, vN, vN, vN, vN, vN, vN, vN, vN, vN, vN, vN, vN, vN, vN, vN, vN] [(.tip 4 q4)]) := by
  intro m
  induction m with
  | zero => intros; kernel_rfl
  | succ m ih =>
    intro a1 a2 a3 a4 a5
    exact (show _ = kC (ck11 n (d + 7)) (sp11 n) n c11_49 [(.d (.str a1)), vN, vN, vN, vN, (.gs 0 4 a2 a3), (.d (.int .i64 a4)), vN, vN, vN, vN, vN, vN, vN, vN, vN, vN, vN, vN, vN, vN, vN, vN, vN, vN, vN, vN, vN, vN, vN, vN, vN, vN, vN, vN, vN, vN, vN, vN, vN, vN, vN, vN, vN, vN, vN, vN, vN, vN, vN, vN, vN] [(.tip 4 a5)] (tidyK ti11_50 [] 1  (seqK (kLoop (kC (ck11 n (d + 7)) (sp11 n) n c11_49) ti11_50 [] m) K)) from by kernel_rfl).trans ((tS11_2 n d a1 a2 a3 a4 a5 _).trans (by simp only [seqK_nor, ih, seqK_exit, seqK_ret]; kernel_rfl))

def S11_4 {ρ : Type} (n : Nat) (a1 : Int) (a2 : Int) (a3 : Nat) (k0 : Option ρ) : Option ρ :=
  k0

theorem tS11_4 {ρ : Type} (n d : Nat) (a1 : Int) (a2 : Int) (a3 : Nat) (K : Out → List KB → Option ρ) :
    (blockK 0 (seqK (kC (ck11 n (d + 7)) (sp11 n) n c11_54) (endK [(.tmp 2 (some 4)), (.tmp 3 none), (.tmp 4 none)] 0 K))) .ret [vN, vN, (.d .nils), (.d (.int .i64 a1)), (.d (.int .i64 a2)), vN, vN, vN, vN, vN, vN, vN, vN, vN, vN, vN, vN, vN, vN, vN, vN, vN, vN, vN, vN, vN, vN, vN, vN, vN, vN, vN, vN, vN, vN, vN, vN, vN, vN, vN, vN, vN, vN, vN, vN, vN, vN, vN, vN, vN, vN, vN] [(.tip 4 a3)] =
    S11_4 n a1 a2 a3 (K (.ret (.d (.tup [(.lst 4 0 [] true), (.int .i64 a1), (.int .i64 a2)]))) []) := by kernel_rfl

def S11_5 {ρ : Type} (n : Nat) (a1 : List UInt8) (a2 : Nat) (a3 : List D) (a4 : Int) (a5 : Nat) (k0 : Option ρ) : Option ρ :=
  k0

theorem tS11_5 {ρ : Type} (n d : Nat) (a1 : List UInt8) (a2 : Nat) (a3 : List D) (a4 : Int) (a5 : Nat) (K : Out → List KB → Option ρ) :
    (blockK 0 (seqK (kC (ck11 n (d + 7)) (sp11 n) n c11_54) (endK [(.tmp 2 (some 4)), (.tmp 3 none), (.tmp 4 none)] 0 K))) (.exit 0) [(.d (.str a1)), vN, vN, vN, vN, (.gs 0 4 a2 a3), (.d (.int .i64 a4)), vN, vN, vN, vN, vN, vN, vN, vN, vN, vN, vN, vN, vN, vN, vN, vN, vN, vN, vN, vN, vN, vN, vN, vN, vN, vN, vN, vN, vN, vN, vN, vN, vN, vN, vN, vN, vN, vN, vN, vN, vN, vN, vN, vN, vN] [(.tip 4 a5)] =
    S11_5 n a1 a2 a3 a4 a5 (K (.ret (.d (.tup [(.lst 4 a2 a3 false), (.int .i64 (0)), (.int .i64 (0))]))) []) := by kernel_rfl

def S11_1 {ρ : Type} (n : Nat) (a1 : List UInt8) (k0 : Nat → (List D) → Bool → Int → Int → Option ρ) : Option ρ :=
  cond (decide ((List.length a1 : Int) > (8000 : Int))) (k0 (0 : Nat) ([] : List D) true (2 : Int) (0 : Int)) ((F14 n [(.str a1), (.int .i64 (0))]).bind fun x1 => gI .i64 x1 fun x2 => L11_3 n n a1 (0 : Nat) ([] : List D) x2 (0 : Nat) (fun x3 x4 x5 => S11_4 n x3 x4 x5 (k0 (0 : Nat) ([] : List D) true x3 x4)) (fun x6 x7 x8 x9 => S11_5 n a1 x6 x7 x8 x9 (k0 x6 x7 false (0 : Int) (0 : Int))))

theorem hS11_1 {ρ : Type} (n d : Nat) (a1 : List UInt8) (K : Out → List KB → Option ρ) :
    kC (ck11 n (d + 7)) (sp11 n) n c11_59 [(.d (.str a1)), vU, vU, vU, vU, vU, vU, vU, vU, vU, vU, vU, vU, vU, vU, vU, vU, vU, vU, vU, vU, vU, vU, vU, vU, vU, vU, vU, vU, vU, vU, vU, vU, vU, vU, vU, vU, vU, vU, vU, vU, vU, vU, vU, vU, vU, vU, vU, vU, vU, vU, vU] [] (endK [(.tmp 2 (some 4)), (.tmp 3 none), (.tmp 4 none)] 0 K) =
    cond (decide ((List.length a1 : Int) > (8000 : Int))) (K (.ret (.d (.tup [(.lst 4 0 [] true), (.int .i64 (2)), (.int .i64 (0))]))) []) ((F14 n [(.str a1), (.int .i64 (0))]).bind fun x1 => gI .i64 x1 fun x2 => kLoop (kC (ck11 n (d + 7)) (sp11 n) n c11_49) ti11_50 [] n [(.d (.str a1)), vN, vN, vN, vN, (.gs 0 4 0 []), (.d (.int .i64 x2)), vN, vN, vN, vN, vN, vN, vN, vN, vN, vN, vN, vN, vN, vN, vN, vN, vN, vN, vN, vN, vN, vN, vN, vN, vN, vN, vN, vN, vN, vN, vN, vN, vN, vN, vN, vN, vN, vN, vN, vN, vN, vN, vN, vN, vN] [(.tip 4 0)] (blockK 0 (seqK (kC (ck11 n (d + 7)) (sp11 n) n c11_54) (endK [(.tmp 2 (some 4)), (.tmp 3 none), (.tmp 4 none)] 0 K)))) := by kernel_rfl

theorem tS11_1 {ρ : Type} (n d : Nat) (a1 : List UInt8) (K : Out → List KB → Option ρ) :
    kC (ck11 n (d + 7)) (sp11 n) n c11_59 [(.d (.str a1)), vU, vU, vU, vU, vU, vU, vU, vU, vU, vU, vU, vU, vU, vU, vU, vU, vU, vU, vU, vU, vU, vU, vU, vU, vU, vU, vU, vU, vU, vU, vU, vU, vU, vU, vU, vU, vU, vU, vU, vU, vU, vU, vU, vU, vU, vU, vU, vU, vU, vU, vU] [] (endK [(.tmp 2 (some 4)), (.tmp 3 none), (.tmp 4 none)] 0 K) =
    S11_1 n a1 (fun (q1 : Nat) (q2 : List D) (q3 : Bool) (q4 : Int) (q5 : Int) => K (.ret (.d (.tup [(.lst 4 q1 q2 q3), (.int .i64 q4), (.int .i64 q5)]))) []) :=
  (hS11_1 n d a1 K).trans (by simp only [tL11_3, tS11_4, tS11_5]; kernel_rfl)

theorem tF11 {ρ : Type} (n d : Nat) (b1 : List UInt8) (K : Out → List KB → Option ρ) :
    ck11 n (d + 8) 11 [.d (.str b1)] [] K =
    S11_1 n b1 (fun (q1 : Nat) (q2 : List D) (q3 : Bool) (q4 : Int) (q5 : Int) => K (.ret (.d (.tup [(.lst 4 q1 q2 q3), (.int .i64 q4), (.int .i64 q5)]))) []) :=
  (show _ = kC (ck11 n (d + 7)) (sp11 n) n c11_59 [(.d (.str b1)), vU, vU, vU, vU, vU, vU, vU, vU, vU, vU, vU, vU, vU, vU, vU, vU, vU, vU, vU, vU, vU, vU, vU, vU, vU, vU, vU, vU, vU, vU, vU, vU, vU, vU, vU, vU, vU, vU, vU, vU, vU, vU, vU, vU, vU, vU, vU, vU, vU, vU, vU] [] (endK [(.tmp 2 (some 4)), (.tmp 3 none), (.tmp 4 none)] 0 K) from by kernel_rfl).trans (tS11_1 n d b1 K)

def F11 (n : Nat) : Ev.Fn
  | [(.str b1)] => S11_1 n b1 (fun (q1 : Nat) (q2 : List D) (q3 : Bool) (q4 : Int) (q5 : Int) => some (.tup [(.lst 4 q1 q2 q3), (.int .i64 q4), (.int .i64 q5)]))
  | _ => none

theorem p11 (n : Nat) : Pure Tryd.prog YtgkjmdbjncnlpaaDoor.GL 11 (F11 n) := by
  refine pure_k bodyOK (spok11 n) (mkSp_S _) mix (callable_of (by kernel_rfl)) n 8 ?_
  intro ds x h
  unfold F11 at h
  split at h
  · rename_i b1
    rw [← h]
    exact (tF11 n 0 b1 fin).trans (by kernel_rfl)
  · cases h

end Go.Proofs.YtgkjmdbjncnlpaaDoor
