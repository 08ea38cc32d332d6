/- Functions of plain data, and that the program computes them: printed by a program of mine. -/
import Derived.Test.YtgkjmdbjncnlpaaDoorKc
namespace Go.Proofs.YtgkjmdbjncnlpaaDoor
open Go.Ev
set_option maxRecDepth 100000
set_option maxHeartbeats 4000000
set_option linter.unusedVariables false
set_option linter.unusedSimpArgs false

def spl4 (n : Nat) : List (FuncId × Ev.Fn) := [(9, F9 n), (10, F10 n), (13, F13 n), (14, F14 n)]

def sp4 (n : Nat) : SpecT := mkSp isS (spl4 n)

theorem spok4 (n : Nat) : SpecOK Tryd.prog YtgkjmdbjncnlpaaDoor.GL (sp4 n) := mkSp_ok callS (all_cons (p9 n) (all_cons (p10 n) (all_cons (p13 n) (all_cons (p14 n) all_nil))))

def ck4 {ρ : Type} (n d : Nat) : CallK ρ := kF body (sp4 n) n d

def S4_2 {ρ : Type} (n : Nat) (a1 : List UInt8) (a2 : Bool) (a3 : Int) (a4 : Nat) (a5 : List D) (a6 : Bool) (a7 : Int) (a8 : Int) (k0 : Option ρ) (k1 : Int → Int → Option ρ) (k2 : Option ρ) : Option ρ :=
  cond (decide (a8 < a7)) (ass ((decide ((0 : Int) ≤ a8) && decide (a8 < (a4 : Int)))) (gC (List.drop (Int.toNat a8 * 4) a5) fun x1 x2 => gI .i64 x1 fun x3 => gC x2 fun x4 x5 => gS x4 fun x6 => gC x5 fun x7 x8 => gI .i64 x7 fun x9 => gC x8 fun x10 x11 => gI .i64 x10 fun x12 => (F13 n [(.agg [(.int .i64 x3), (.str x6), (.int .i64 x9), (.int .i64 x12)])]).bind fun x13 => gS x13 fun x14 => cond (x14 == ([] : List UInt8)) (k0) (cond (decide (x12 < a3)) (k0) (cond (decide ((IntKind.i64.wrap (x12 + (List.length x14 : Int))) > (List.length a1 : Int))) (k0) ((F14 n [(.str a1), (.int .i64 a3)]).bind fun x15 => gI .i64 x15 fun x16 => cond (x16 != x12) (k0) (ass ((decide ((0 : Int) ≤ (IntKind.i64.wrap (x12 + (List.length x14 : Int)))) && decide ((IntKind.i64.wrap (x12 + (List.length x14 : Int))) ≤ ((List.length a1) : Int)))) (ass ((decide ((0 : Int) ≤ x12) && decide (x12 ≤ ((Int.toNat (IntKind.i64.wrap (x12 + (List.length x14 : Int)))) : Int)))) (cond (!((List.take ((Int.toNat (IntKind.i64.wrap (x12 + (List.length x14 : Int)))) - (Int.toNat x12)) (List.drop (Int.toNat x12) a1)) == x14)) (k0) (k1 (IntKind.i64.wrap (x12 + (List.length x14 : Int))) (IntKind.i64.wrap (a8 + (1 : Int)))))))))))) (k2)

theorem tS4_2 {ρ : Type} (n d : Nat) (a1 : List UInt8) (a2 : Bool) (a3 : Int) (a4 : Nat) (a5 : List D) (a6 : Bool) (a7 : Int) (a8 : Int) (K : Ex → List V → List KB → Option ρ) :
    kC (ck4 n (d + 7)) (sp4 n) n c4_40 [(.d (.str a1)), vN, vN, (.d (.bool a2)), vN, vN, vN, (.d (.int .i64 a3)), vN, vN, vN, vN, vN, vN, vN, vN, vN, vN, vN, vN, vN, vN, vN, vN, vN, vN, vN, vN, vN, vN, (.d (.lst 4 a4 a5 a6)), (.d (.int .i64 a7)), (.d (.int .i64 a8)), vN, vN, vN, vN, vN, vN, vN, vN, vN, vN, vN, vN, vN, vN, vN, vN, vN, vN, vN, vN, vN, vN, vN, vN, vN, vN, vN, vN, vN, vN, vN, vN, vN, vN, vN, vN, vN, vN, vN, vN, vN, vN, vN, vN, vN, vN, vN, vN, vN, vN, vN, vN, vN, vN, vN, vN, vN, vN, vN] [] (tidyK ti4_41 [] 0 K) =
    S4_2 n a1 a2 a3 a4 a5 a6 a7 a8 (K .ret [vN, vN, (.d (.bool false)), vN, vN, vN, vN, vN, vN, vN, vN, vN, vN, vN, vN, vN, vN, vN, vN, vN, vN, vN, vN, vN, vN, vN, vN, vN, vN, vN, vN, vN, vN, vN, vN, vN, vN, vN, vN, vN, vN, vN, vN, vN, vN, vN, vN, vN, vN, vN, vN, vN, vN, vN, vN, vN, vN, vN, vN, vN, vN, vN, vN, vN, vN, vN, vN, vN, vN, vN, vN, vN, vN, vN, vN, vN, vN, vN, vN, vN, vN, vN, vN, vN, vN, vN, vN, vN, vN, vN, vN, vN] []) (fun (q1 : Int) (q2 : Int) => K .nor [(.d (.str a1)), vN, vN, (.d (.bool a2)), vN, vN, vN, (.d (.int .i64 q1)), vN, vN, vN, vN, vN, vN, vN, vN, vN, vN, vN, vN, vN, vN, vN, vN, vN, vN, vN, vN, vN, vN, (.d (.lst 4 a4 a5 a6)), (.d (.int .i64 a7)), (.d (.int .i64 q2)), vN, vN, vN, vN, vN, vN, vN, vN, vN, vN, vN, vN, vN, vN, vN, vN, vN, vN, vN, vN, vN, vN, vN, vN, vN, vN, vN, vN, vN, vN, vN, vN, vN, vN, vN, vN, vN, vN, vN, vN, vN, vN, vN, vN, vN, vN, vN, vN, vN, vN, vN, vN, vN, vN, vN, vN, vN, vN, vN] []) (K (.exit 0) [(.d (.str a1)), vN, vN, (.d (.bool a2)), vN, vN, vN, (.d (.int .i64 a3)), vN, vN, vN, vN, vN, vN, vN, vN, vN, vN, vN, vN, vN, vN, vN, vN, vN, vN, vN, vN, vN, vN, (.d (.lst 4 a4 a5 a6)), (.d (.int .i64 a7)), (.d (.int .i64 a8)), vN, vN, vN, vN, vN, vN, vN, vN, vN, vN, vN, vN, vN, vN, vN, vN, vN, vN, vN, vN, vN, vN, vN, vN, vN, vN, vN, vN, vN, vN, vN, vN, vN, vN, vN, vN, vN, vN, vN, vN, vN, vN, vN, vN, vN, vN, vN, vN, vN, vN, vN, vN, vN, vN, vN, vN, vN, vN, vN] []) := by kernel_rfl

def L4_3 {ρ : Type} (n : Nat) : Nat → (List UInt8) → Bool → Int → Nat → (List D) → Bool → Int → Int → Option ρ → (Int → Int → Option ρ) → Option ρ
  | 0, _, _, _, _, _, _, _, _, _, _ => none
  | m + 1, a1, a2, a3, a4, a5, a6, a7, a8, k0, k1 => S4_2 n a1 a2 a3 a4 a5 a6 a7 a8 (k0) (fun x1 x2 => L4_3 n m a1 a2 x1 a4 a5 a6 a7 x2 k0 k1) (k1 a3 a8)

theorem tL4_3 {ρ : Type} (n d : Nat) (K : Ex → List V → List KB → Option ρ) : ∀ (m : Nat) (a1 : List UInt8) (a2 : Bool) (a3 : Int) (a4 : Nat) (a5 : List D) (a6 : Bool) (a7 : Int) (a8 : Int),
    kLoop (kC (ck4 n (d + 7)) (sp4 n) n c4_40) ti4_41 [] m [(.d (.str a1)), vN, vN, (.d (.bool a2)), vN, vN, vN, (.d (.int .i64 a3)), vN, vN, vN, vN, vN, vN, vN, vN, vN, vN, vN, vN, vN, vN, vN, vN, vN, vN, vN, vN, vN, vN, (.d (.lst 4 a4 a5 a6)), (.d (.int .i64 a7)), (.d (.int .i64 a8)), vN, vN, vN, vN, vN, vN, vN, vN, vN, vN, vN, vN, vN, vN, vN, vN, vN, vN, vN, vN, vN, vN, vN, vN, vN, vN, vN, vN, vN, vN, vN, vN, vN, vN, vN, vN, vN, vN, vN, vN, vN, vN, vN, vN, vN, vN, vN, vN, vN, vN, vN, vN, vN, vN, vN, vN, vN, vN, vN] [] K =
    L4_3 n m a1 a2 a3 a4 a5 a6 a7 a8 (K .ret [vN, vN, (.d (.bool false)), vN, vN, vN, vN, vN, vN, vN, vN, vN, vN, vN, vN, vN, vN, vN, vN, vN, vN, vN, vN, vN, vN, vN, vN, vN, vN, vN, vN, vN, vN, vN, vN, vN, vN, vN, vN, vN, vN, vN, vN, vN, vN, vN, vN, vN, vN, vN, vN, vN, vN, vN, vN, vN, vN, vN, vN, vN, vN, vN, vN, vN, vN, vN, vN, vN, vN, vN, vN, vN, vN, vN, vN, vN, vN, vN, vN, vN, vN, vN, vN, vN, vN, vN, vN, vN, vN, vN, vN, vN] []) (fun (q1 : Int) (q2 : Int) => K (.exit 0) [(.d (.str a1)), vN, vN, (.d (.bool a2)), vN, vN, vN, (.d (.int .i64 q1)), vN, vN, vN, vN, vN, vN, vN, vN, vN, vN, vN, vN, vN, vN, vN, vN, vN, vN, vN, vN, vN, vN, (.d (.lst 4 a4 a5 a6)), (.d (.int .i64 a7)), (.d (.int .i64 q2)), vN, vN, vN, vN, vN, vN, vN, vN, vN, vN, vN, vN, vN, vN, vN, vN, vN, vN, vN, vN, vN, vN, vN, vN, vN, vN, vN, vN, vN, vN, vN, vN, vN, vN, vN, vN, vN, vN, vN, vN, vN, vN, vN, vN, vN, vN, vN, vN, vN, vN, vN, vN, vN, vN, vN, vN, vN, vN, vN] []) := by
  intro m
  induction m with
  | zero => intros; kernel_rfl
  | succ m ih =>
    intro a1 a2 a3 a4 a5 a6 a7 a8
    exact (show _ = kC (ck4 n (d + 7)) (sp4 n) n c4_40 [(.d (.str a1)), vN, vN, (.d (.bool a2)), vN, vN, vN, (.d (.int .i64 a3)), vN, vN, vN, vN, vN, vN, vN, vN, vN, vN, vN, vN, vN, vN, vN, vN, vN, vN, vN, vN, vN, vN, (.d (.lst 4 a4 a5 a6)), (.d (.int .i64 a7)), (.d (.int .i64 a8)), vN, vN, vN, vN, vN, vN, vN, vN, vN, vN, vN, vN, vN, vN, vN, vN, vN, vN, vN, vN, vN, vN, vN, vN, vN, vN, vN, vN, vN, vN, vN, vN, vN, vN, vN, vN, vN, vN, vN, vN, vN, vN, vN, vN, vN, vN, vN, vN, vN, vN, vN, vN, vN, vN, vN, vN, vN, vN, vN] [] (tidyK ti4_41 [] 0  (seqK (kLoop (kC (ck4 n (d + 7)) (sp4 n) n c4_40) ti4_41 [] m) K)) from by kernel_rfl).trans ((tS4_2 n d a1 a2 a3 a4 a5 a6 a7 a8 _).trans (by simp only [seqK_nor, ih, seqK_exit, seqK_ret]; kernel_rfl))

def S4_4 {ρ : Type} (n : Nat) (k0 : Option ρ) : Option ρ :=
  k0

theorem tS4_4 {ρ : Type} (n d : Nat) (K : Out → List KB → Option ρ) :
    (blockK 0 (seqK (kC (ck4 n (d + 7)) (sp4 n) n c4_46) (endK [(.tmp 2 none)] 0 K))) .ret [vN, vN, (.d (.bool false)), vN, vN, vN, vN, vN, vN, vN, vN, vN, vN, vN, vN, vN, vN, vN, vN, vN, vN, vN, vN, vN, vN, vN, vN, vN, vN, vN, vN, vN, vN, vN, vN, vN, vN, vN, vN, vN, vN, vN, vN, vN, vN, vN, vN, vN, vN, vN, vN, vN, vN, vN, vN, vN, vN, vN, vN, vN, vN, vN, vN, vN, vN, vN, vN, vN, vN, vN, vN, vN, vN, vN, vN, vN, vN, vN, vN, vN, vN, vN, vN, vN, vN, vN, vN, vN, vN, vN, vN, vN] [] =
    S4_4 n (K (.ret (.d (.bool false))) []) := by kernel_rfl

def S4_5 {ρ : Type} (n : Nat) (a1 : List UInt8) (a2 : Bool) (a3 : Int) (a4 : Nat) (a5 : List D) (a6 : Bool) (a7 : Int) (a8 : Int) (k0 : Bool → Option ρ) : Option ρ :=
  cond a2 ((F14 n [(.str a1), (.int .i64 a3)]).bind fun x1 => gI .i64 x1 fun x2 => k0 (x2 == (List.length a1 : Int))) (k0 false)

theorem tS4_5 {ρ : Type} (n d : Nat) (a1 : List UInt8) (a2 : Bool) (a3 : Int) (a4 : Nat) (a5 : List D) (a6 : Bool) (a7 : Int) (a8 : Int) (K : Out → List KB → Option ρ) :
    (blockK 0 (seqK (kC (ck4 n (d + 7)) (sp4 n) n c4_46) (endK [(.tmp 2 none)] 0 K))) (.exit 0) [(.d (.str a1)), vN, vN, (.d (.bool a2)), vN, vN, vN, (.d (.int .i64 a3)), vN, vN, vN, vN, vN, vN, vN, vN, vN, vN, vN, vN, vN, vN, vN, vN, vN, vN, vN, vN, vN, vN, (.d (.lst 4 a4 a5 a6)), (.d (.int .i64 a7)), (.d (.int .i64 a8)), vN, vN, vN, vN, vN, vN, vN, vN, vN, vN, vN, vN, vN, vN, vN, vN, vN, vN, vN, vN, vN, vN, vN, vN, vN, vN, vN, vN, vN, vN, vN, vN, vN, vN, vN, vN, vN, vN, vN, vN, vN, vN, vN, vN, vN, vN, vN, vN, vN, vN, vN, vN, vN, vN, vN, vN, vN, vN, vN] [] =
    S4_5 n a1 a2 a3 a4 a5 a6 a7 a8 (fun (q1 : Bool) => K (.ret (.d (.bool q1))) []) := by kernel_rfl

def S4_1 {ρ : Type} (n : Nat) (a1 : List UInt8) (k0 : Bool → Option ρ) : Option ρ :=
  (F9 n []).bind fun x1 => gB x1 fun x2 => cond (decide ((List.length a1 : Int) > (8000 : Int))) (k0 x2) ((F10 n [(.str a1)]).bind fun x3 => gT x3 fun x4 => gC x4 fun x5 x6 => gL 4 x5 fun x7 x8 x9 => gC x6 fun x10 x11 => gI .i64 x10 fun x12 => gC x11 fun x13 x14 => gI .i64 x13 fun x15 => gE x14 (cond (x12 != (0 : Int)) (cond x2 (k0 ((x7 : Int) == (0 : Int))) (k0 false)) (L4_3 n n a1 x2 (0 : Int) x7 x8 x9 (x7 : Int) (0 : Int) (S4_4 n (k0 false)) (fun x16 x17 => S4_5 n a1 x2 x16 x7 x8 x9 (x7 : Int) x17 (fun x18 => k0 x18)))))

theorem hS4_1 {ρ : Type} (n d : Nat) (a1 : List UInt8) (K : Out → List KB → Option ρ) :
    kC (ck4 n (d + 7)) (sp4 n) n c4_53 [(.d (.str a1)), vU, vU, vU, vU, vU, vU, vU, vU, vU, vU, vU, vU, vU, vU, vU, vU, vU, vU, vU, vU, vU, vU, vU, vU, vU, vU, vU, vU, vU, vU, vU, vU, vU, vU, vU, vU, vU, vU, vU, vU, vU, vU, vU, vU, vU, vU, vU, vU, vU, vU, vU, vU, vU, vU, vU, vU, vU, vU, vU, vU, vU, vU, vU, vU, vU, vU, vU, vU, vU, vU, vU, vU, vU, vU, vU, vU, vU, vU, vU, vU, vU, vU, vU, vU, vU, vU, vU, vU, vU, vU, vU] [] (endK [(.tmp 2 none)] 0 K) =
    (F9 n []).bind fun x1 => gB x1 fun x2 => cond (decide ((List.length a1 : Int) > (8000 : Int))) (K (.ret (.d (.bool x2))) []) ((F10 n [(.str a1)]).bind fun x3 => gT x3 fun x4 => gC x4 fun x5 x6 => gL 4 x5 fun x7 x8 x9 => gC x6 fun x10 x11 => gI .i64 x10 fun x12 => gC x11 fun x13 x14 => gI .i64 x13 fun x15 => gE x14 (cond (x12 != (0 : Int)) (cond x2 (K (.ret (.d (.bool ((x7 : Int) == (0 : Int))))) []) (K (.ret (.d (.bool false))) [])) (kLoop (kC (ck4 n (d + 7)) (sp4 n) n c4_40) ti4_41 [] n [(.d (.str a1)), vN, vN, (.d (.bool x2)), vN, vN, vN, (.d (.int .i64 (0))), vN, vN, vN, vN, vN, vN, vN, vN, vN, vN, vN, vN, vN, vN, vN, vN, vN, vN, vN, vN, vN, vN, (.d (.lst 4 x7 x8 x9)), (.d (.int .i64 (x7 : Int))), (.d (.int .i64 (0))), vN, vN, vN, vN, vN, vN, vN, vN, vN, vN, vN, vN, vN, vN, vN, vN, vN, vN, vN, vN, vN, vN, vN, vN, vN, vN, vN, vN, vN, vN, vN, vN, vN, vN, vN, vN, vN, vN, vN, vN, vN, vN, vN, vN, vN, vN, vN, vN, vN, vN, vN, vN, vN, vN, vN, vN, vN, vN, vN] [] (blockK 0 (seqK (kC (ck4 n (d + 7)) (sp4 n) n c4_46) (endK [(.tmp 2 none)] 0 K)))))) := by kernel_rfl

theorem tS4_1 {ρ : Type} (n d : Nat) (a1 : List UInt8) (K : Out → List KB → Option ρ) :
    kC (ck4 n (d + 7)) (sp4 n) n c4_53 [(.d (.str a1)), vU, vU, vU, vU, vU, vU, vU, vU, vU, vU, vU, vU, vU, vU, vU, vU, vU, vU, vU, vU, vU, vU, vU, vU, vU, vU, vU, vU, vU, vU, vU, vU, vU, vU, vU, vU, vU, vU, vU, vU, vU, vU, vU, vU, vU, vU, vU, vU, vU, vU, vU, vU, vU, vU, vU, vU, vU, vU, vU, vU, vU, vU, vU, vU, vU, vU, vU, vU, vU, vU, vU, vU, vU, vU, vU, vU, vU, vU, vU, vU, vU, vU, vU, vU, vU, vU, vU, vU, vU, vU, vU] [] (endK [(.tmp 2 none)] 0 K) =
    S4_1 n a1 (fun (q1 : Bool) => K (.ret (.d (.bool q1))) []) :=
  (hS4_1 n d a1 K).trans (by simp only [tL4_3, tS4_4, tS4_5]; kernel_rfl)

theorem tF4 {ρ : Type} (n d : Nat) (b1 : List UInt8) (K : Out → List KB → Option ρ) :
    ck4 n (d + 8) 4 [.d (.str b1)] [] K =
    S4_1 n b1 (fun (q1 : Bool) => K (.ret (.d (.bool q1))) []) :=
  (show _ = kC (ck4 n (d + 7)) (sp4 n) n c4_53 [(.d (.str b1)), vU, vU, vU, vU, vU, vU, vU, vU, vU, vU, vU, vU, vU, vU, vU, vU, vU, vU, vU, vU, vU, vU, vU, vU, vU, vU, vU, vU, vU, vU, vU, vU, vU, vU, vU, vU, vU, vU, vU, vU, vU, vU, vU, vU, vU, vU, vU, vU, vU, vU, vU, vU, vU, vU, vU, vU, vU, vU, vU, vU, vU, vU, vU, vU, vU, vU, vU, vU, vU, vU, vU, vU, vU, vU, vU, vU, vU, vU, vU, vU, vU, vU, vU, vU, vU, vU, vU, vU, vU, vU, vU] [] (endK [(.tmp 2 none)] 0 K) from by kernel_rfl).trans (tS4_1 n d b1 K)

def F4 (n : Nat) : Ev.Fn
  | [(.str b1)] => S4_1 n b1 (fun (q1 : Bool) => some (.bool q1))
  | _ => none

theorem p4 (n : Nat) : Pure Tryd.prog YtgkjmdbjncnlpaaDoor.GL 4 (F4 n) := by
  refine pure_k bodyOK (spok4 n) (mkSp_S _) mix (callable_of (by kernel_rfl)) n 8 ?_
  intro ds x h
  unfold F4 at h
  split at h
  · rename_i b1
    rw [← h]
    exact (tF4 n 0 b1 fin).trans (by kernel_rfl)
  · cases h

def spl7 (n : Nat) : List (FuncId × Ev.Fn) := [(9, F9 n), (10, F10 n), (13, F13 n), (15, F15 n)]

def sp7 (n : Nat) : SpecT := mkSp isS (spl7 n)

theorem spok7 (n : Nat) : SpecOK Tryd.prog YtgkjmdbjncnlpaaDoor.GL (sp7 n) := mkSp_ok callS (all_cons (p9 n) (all_cons (p10 n) (all_cons (p13 n) (all_cons (p15 n) all_nil))))

def ck7 {ρ : Type} (n d : Nat) : CallK ρ := kF body (sp7 n) n d

def S7_2 {ρ : Type} (n : Nat) (a1 : Bool) (a2 : Nat) (a3 : List D) (a4 : Bool) (a5 : List UInt8) (a6 : Int) (a7 : Int) (k0 : (List UInt8) → Int → Option ρ) (k1 : Option ρ) : Option ρ :=
  cond (decide (a7 < a6)) (ass ((decide ((0 : Int) ≤ a7) && decide (a7 < (a2 : Int)))) (gC (List.drop (Int.toNat a7 * 4) a3) fun x1 x2 => gI .i64 x1 fun x3 => gC x2 fun x4 x5 => gS x4 fun x6 => gC x5 fun x7 x8 => gI .i64 x7 fun x9 => gC x8 fun x10 x11 => gI .i64 x10 fun x12 => (F13 n [(.agg [(.int .i64 x3), (.str x6), (.int .i64 x9), (.int .i64 x12)])]).bind fun x13 => gS x13 fun x14 => ass ((fitsS (x14.length + ([32] : List UInt8).length))) (ass ((fitsS (a5.length + (x14 ++ ([32] : List UInt8)).length))) (k0 (a5 ++ (x14 ++ ([32] : List UInt8))) (IntKind.i64.wrap (a7 + (1 : Int))))))) (k1)

theorem tS7_2 {ρ : Type} (n d : Nat) (a1 : Bool) (a2 : Nat) (a3 : List D) (a4 : Bool) (a5 : List UInt8) (a6 : Int) (a7 : Int) (K : Ex → List V → List KB → Option ρ) :
    kC (ck7 n (d + 7)) (sp7 n) n c7_30 [vN, vN, vN, (.d (.bool a1)), (.d (.lst 4 a2 a3 a4)), vN, vN, (.d (.str a5)), vN, vN, vN, vN, vN, vN, vN, vN, vN, vN, vN, vN, vN, vN, vN, vN, vN, vN, vN, (.d (.lst 4 a2 a3 a4)), (.d (.int .i64 a6)), (.d (.int .i64 a7)), vN, vN, vN, vN, vN, vN, vN, vN, vN, vN, vN, vN, vN, vN, vN, vN, vN, vN, vN, vN, vN, vN, vN, vN, vN, vN, vN, vN, vN, vN, vN, vN, vN, vN] [] (tidyK ti7_31 [] 0 K) =
    S7_2 n a1 a2 a3 a4 a5 a6 a7 (fun (q1 : List UInt8) (q2 : Int) => K .nor [vN, vN, vN, (.d (.bool a1)), (.d (.lst 4 a2 a3 a4)), vN, vN, (.d (.str q1)), vN, vN, vN, vN, vN, vN, vN, vN, vN, vN, vN, vN, vN, vN, vN, vN, vN, vN, vN, (.d (.lst 4 a2 a3 a4)), (.d (.int .i64 a6)), (.d (.int .i64 q2)), vN, vN, vN, vN, vN, vN, vN, vN, vN, vN, vN, vN, vN, vN, vN, vN, vN, vN, vN, vN, vN, vN, vN, vN, vN, vN, vN, vN, vN, vN, vN, vN, vN, vN] []) (K (.exit 0) [vN, vN, vN, (.d (.bool a1)), (.d (.lst 4 a2 a3 a4)), vN, vN, (.d (.str a5)), vN, vN, vN, vN, vN, vN, vN, vN, vN, vN, vN, vN, vN, vN, vN, vN, vN, vN, vN, (.d (.lst 4 a2 a3 a4)), (.d (.int .i64 a6)), (.d (.int .i64 a7)), vN, vN, vN, vN, vN, vN, vN, vN, vN, vN, vN, vN, vN, vN, vN, vN, vN, vN, vN, vN, vN, vN, vN, vN, vN, vN, vN, vN, vN, vN, vN, vN, vN, vN] []) := by kernel_rfl

def L7_3 {ρ : Type} (n : Nat) : Nat → Bool → Nat → (List D) → Bool → (List UInt8) → Int → Int → ((List UInt8) → Int → Option ρ) → Option ρ
  | 0, _, _, _, _, _, _, _, _ => none
  | m + 1, a1, a2, a3, a4, a5, a6, a7, k0 => S7_2 n a1 a2 a3 a4 a5 a6 a7 (fun x1 x2 => L7_3 n m a1 a2 a3 a4 x1 a6 x2 k0) (k0 a5 a7)

theorem tL7_3 {ρ : Type} (n d : Nat) (K : Ex → List V → List KB → Option ρ) : ∀ (m : Nat) (a1 : Bool) (a2 : Nat) (a3 : List D) (a4 : Bool) (a5 : List UInt8) (a6 : Int) (a7 : Int),
    kLoop (kC (ck7 n (d + 7)) (sp7 n) n c7_30) ti7_31 [] m [vN, vN, vN, (.d (.bool a1)), (.d (.lst 4 a2 a3 a4)), vN, vN, (.d (.str a5)), vN, vN, vN, vN, vN, vN, vN, vN, vN, vN, vN, vN, vN, vN, vN, vN, vN, vN, vN, (.d (.lst 4 a2 a3 a4)), (.d (.int .i64 a6)), (.d (.int .i64 a7)), vN, vN, vN, vN, vN, vN, vN, vN, vN, vN, vN, vN, vN, vN, vN, vN, vN, vN, vN, vN, vN, vN, vN, vN, vN, vN, vN, vN, vN, vN, vN, vN, vN, vN] [] K =
    L7_3 n m a1 a2 a3 a4 a5 a6 a7 (fun (q1 : List UInt8) (q2 : Int) => K (.exit 0) [vN, vN, vN, (.d (.bool a1)), (.d (.lst 4 a2 a3 a4)), vN, vN, (.d (.str q1)), vN, vN, vN, vN, vN, vN, vN, vN, vN, vN, vN, vN, vN, vN, vN, vN, vN, vN, vN, (.d (.lst 4 a2 a3 a4)), (.d (.int .i64 a6)), (.d (.int .i64 q2)), vN, vN, vN, vN, vN, vN, vN, vN, vN, vN, vN, vN, vN, vN, vN, vN, vN, vN, vN, vN, vN, vN, vN, vN, vN, vN, vN, vN, vN, vN, vN, vN, vN, vN] []) := by
  intro m
  induction m with
  | zero => intros; kernel_rfl
  | succ m ih =>
    intro a1 a2 a3 a4 a5 a6 a7
    exact (show _ = kC (ck7 n (d + 7)) (sp7 n) n c7_30 [vN, vN, vN, (.d (.bool a1)), (.d (.lst 4 a2 a3 a4)), vN, vN, (.d (.str a5)), vN, vN, vN, vN, vN, vN, vN, vN, vN, vN, vN, vN, vN, vN, vN, vN, vN, vN, vN, (.d (.lst 4 a2 a3 a4)), (.d (.int .i64 a6)), (.d (.int .i64 a7)), vN, vN, vN, vN, vN, vN, vN, vN, vN, vN, vN, vN, vN, vN, vN, vN, vN, vN, vN, vN, vN, vN, vN, vN, vN, vN, vN, vN, vN, vN, vN, vN, vN, vN] [] (tidyK ti7_31 [] 0  (seqK (kLoop (kC (ck7 n (d + 7)) (sp7 n) n c7_30) ti7_31 [] m) K)) from by kernel_rfl).trans ((tS7_2 n d a1 a2 a3 a4 a5 a6 a7 _).trans (by simp only [seqK_nor, ih, seqK_exit]; kernel_rfl))

def S7_4 {ρ : Type} (n : Nat) (a1 : Bool) (a2 : Nat) (a3 : List D) (a4 : Bool) (a5 : List UInt8) (a6 : Int) (a7 : Int) (k0 : Bool → Option ρ) : Option ρ :=
  (F10 n [(.str a5)]).bind fun x1 => gT x1 fun x2 => gC x2 fun x3 x4 => gL 4 x3 fun x5 x6 x7 => gC x4 fun x8 x9 => gI .i64 x8 fun x10 => gC x9 fun x11 x12 => gI .i64 x11 fun x13 => gE x12 (cond a1 (cond (decide ((List.length a5 : Int) > (8000 : Int))) (cond (x10 == (2 : Int)) (k0 true) (cond (x10 == (0 : Int)) ((F15 n [(.lst 4 a2 a3 a4), (.lst 4 x5 x6 x7)]).bind fun x14 => gB x14 fun x15 => k0 x15) (k0 false))) (cond (x10 == (0 : Int)) ((F15 n [(.lst 4 a2 a3 a4), (.lst 4 x5 x6 x7)]).bind fun x16 => gB x16 fun x17 => k0 x17) (k0 false))) (k0 false))

theorem tS7_4 {ρ : Type} (n d : Nat) (a1 : Bool) (a2 : Nat) (a3 : List D) (a4 : Bool) (a5 : List UInt8) (a6 : Int) (a7 : Int) (K : Out → List KB → Option ρ) :
    (blockK 0 (seqK (kC (ck7 n (d + 7)) (sp7 n) n c7_38) (endK [(.tmp 2 none)] 0 K))) (.exit 0) [vN, vN, vN, (.d (.bool a1)), (.d (.lst 4 a2 a3 a4)), vN, vN, (.d (.str a5)), vN, vN, vN, vN, vN, vN, vN, vN, vN, vN, vN, vN, vN, vN, vN, vN, vN, vN, vN, (.d (.lst 4 a2 a3 a4)), (.d (.int .i64 a6)), (.d (.int .i64 a7)), vN, vN, vN, vN, vN, vN, vN, vN, vN, vN, vN, vN, vN, vN, vN, vN, vN, vN, vN, vN, vN, vN, vN, vN, vN, vN, vN, vN, vN, vN, vN, vN, vN, vN] [] =
    S7_4 n a1 a2 a3 a4 a5 a6 a7 (fun (q1 : Bool) => K (.ret (.d (.bool q1))) []) := by kernel_rfl

def S7_1 {ρ : Type} (n : Nat) (a1 : List UInt8) (k0 : Bool → Option ρ) : Option ρ :=
  (F9 n []).bind fun x1 => gB x1 fun x2 => cond (decide ((List.length a1 : Int) > (8000 : Int))) (k0 x2) ((F10 n [(.str a1)]).bind fun x3 => gT x3 fun x4 => gC x4 fun x5 x6 => gL 4 x5 fun x7 x8 x9 => gC x6 fun x10 x11 => gI .i64 x10 fun x12 => gC x11 fun x13 x14 => gI .i64 x13 fun x15 => gE x14 (cond (x12 != (0 : Int)) (k0 x2) (L7_3 n n x2 x7 x8 x9 ([] : List UInt8) (x7 : Int) (0 : Int) (fun x16 x17 => S7_4 n x2 x7 x8 x9 x16 (x7 : Int) x17 (fun x18 => k0 x18)))))

theorem hS7_1 {ρ : Type} (n d : Nat) (a1 : List UInt8) (K : Out → List KB → Option ρ) :
    kC (ck7 n (d + 7)) (sp7 n) n c7_45 [(.d (.str a1)), vU, vU, vU, vU, vU, vU, vU, vU, vU, vU, vU, vU, vU, vU, vU, vU, vU, vU, vU, vU, vU, vU, vU, vU, vU, vU, vU, vU, vU, vU, vU, vU, vU, vU, vU, vU, vU, vU, vU, vU, vU, vU, vU, vU, vU, vU, vU, vU, vU, vU, vU, vU, vU, vU, vU, vU, vU, vU, vU, vU, vU, vU, vU] [] (endK [(.tmp 2 none)] 0 K) =
    (F9 n []).bind fun x1 => gB x1 fun x2 => cond (decide ((List.length a1 : Int) > (8000 : Int))) (K (.ret (.d (.bool x2))) []) ((F10 n [(.str a1)]).bind fun x3 => gT x3 fun x4 => gC x4 fun x5 x6 => gL 4 x5 fun x7 x8 x9 => gC x6 fun x10 x11 => gI .i64 x10 fun x12 => gC x11 fun x13 x14 => gI .i64 x13 fun x15 => gE x14 (cond (x12 != (0 : Int)) (K (.ret (.d (.bool x2))) []) (kLoop (kC (ck7 n (d + 7)) (sp7 n) n c7_30) ti7_31 [] n [vN, vN, vN, (.d (.bool x2)), (.d (.lst 4 x7 x8 x9)), vN, vN, (.d (.str [])), vN, vN, vN, vN, vN, vN, vN, vN, vN, vN, vN, vN, vN, vN, vN, vN, vN, vN, vN, (.d (.lst 4 x7 x8 x9)), (.d (.int .i64 (x7 : Int))), (.d (.int .i64 (0))), vN, vN, vN, vN, vN, vN, vN, vN, vN, vN, vN, vN, vN, vN, vN, vN, vN, vN, vN, vN, vN, vN, vN, vN, vN, vN, vN, vN, vN, vN, vN, vN, vN, vN] [] (blockK 0 (seqK (kC (ck7 n (d + 7)) (sp7 n) n c7_38) (endK [(.tmp 2 none)] 0 K)))))) := by kernel_rfl

theorem tS7_1 {ρ : Type} (n d : Nat) (a1 : List UInt8) (K : Out → List KB → Option ρ) :
    kC (ck7 n (d + 7)) (sp7 n) n c7_45 [(.d (.str a1)), vU, vU, vU, vU, vU, vU, vU, vU, vU, vU, vU, vU, vU, vU, vU, vU, vU, vU, vU, vU, vU, vU, vU, vU, vU, vU, vU, vU, vU, vU, vU, vU, vU, vU, vU, vU, vU, vU, vU, vU, vU, vU, vU, vU, vU, vU, vU, vU, vU, vU, vU, vU, vU, vU, vU, vU, vU, vU, vU, vU, vU, vU, vU] [] (endK [(.tmp 2 none)] 0 K) =
    S7_1 n a1 (fun (q1 : Bool) => K (.ret (.d (.bool q1))) []) :=
  (hS7_1 n d a1 K).trans (by simp only [tL7_3, tS7_4]; kernel_rfl)

theorem tF7 {ρ : Type} (n d : Nat) (b1 : List UInt8) (K : Out → List KB → Option ρ) :
    ck7 n (d + 8) 7 [.d (.str b1)] [] K =
    S7_1 n b1 (fun (q1 : Bool) => K (.ret (.d (.bool q1))) []) :=
  (show _ = kC (ck7 n (d + 7)) (sp7 n) n c7_45 [(.d (.str b1)), vU, vU, vU, vU, vU, vU, vU, vU, vU, vU, vU, vU, vU, vU, vU, vU, vU, vU, vU, vU, vU, vU, vU, vU, vU, vU, vU, vU, vU, vU, vU, vU, vU, vU, vU, vU, vU, vU, vU, vU, vU, vU, vU, vU, vU, vU, vU, vU, vU, vU, vU, vU, vU, vU, vU, vU, vU, vU, vU, vU, vU, vU, vU] [] (endK [(.tmp 2 none)] 0 K) from by kernel_rfl).trans (tS7_1 n d b1 K)

def F7 (n : Nat) : Ev.Fn
  | [(.str b1)] => S7_1 n b1 (fun (q1 : Bool) => some (.bool q1))
  | _ => none

theorem p7 (n : Nat) : Pure Tryd.prog YtgkjmdbjncnlpaaDoor.GL 7 (F7 n) := by
  refine pure_k bodyOK (spok7 n) (mkSp_S _) mix (callable_of (by kernel_rfl)) n 8 ?_
  intro ds x h
  unfold F7 at h
  split at h
  · rename_i b1
    rw [← h]
    exact (tF7 n 0 b1 fin).trans (by kernel_rfl)
  · cases h

end Go.Proofs.YtgkjmdbjncnlpaaDoor
