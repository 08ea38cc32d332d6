/- Functions of plain data, and that the program computes them: printed by a program of mine. -/
import Derived.Test.YtgkjmdbjncnlpaaDoorKb
namespace Go.Proofs.YtgkjmdbjncnlpaaDoor
open Go.Ev
set_option maxRecDepth 100000
set_option maxHeartbeats 4000000
set_option linter.unusedVariables false
set_option linter.unusedSimpArgs false

def spl12 (n : Nat) : List (FuncId × Ev.Fn) := []

def sp12 (n : Nat) : SpecT := mkSp isS (spl12 n)

theorem spok12 (n : Nat) : SpecOK Tryd.prog YtgkjmdbjncnlpaaDoor.GL (sp12 n) := mkSp_ok callS all_nil

def ck12 {ρ : Type} (n d : Nat) : CallK ρ := kF body (sp12 n) n d

def S12_2 {ρ : Type} (n : Nat) (a1 : Nat) (a2 : List D) (a3 : Bool) (a4 : Nat) (a5 : List D) (a6 : Bool) (a7 : Int) (a8 : Int) (k0 : Option ρ) (k1 : Int → Option ρ) (k2 : Option ρ) : Option ρ :=
  cond (decide (a8 < (a1 : Int))) (ass ((decide ((0 : Int) ≤ a8) && decide (a8 < (a1 : Int)))) (gC (List.drop (Int.toNat a8 * 4) a2) fun x1 x2 => gI .i64 x1 fun x3 => ass ((decide ((0 : Int) ≤ a8) && decide (a8 < (a4 : Int)))) (gC (List.drop (Int.toNat a8 * 4) a5) fun x4 x5 => gI .i64 x4 fun x6 => cond (x3 != x6) (k0) (ass ((decide ((0 : Int) ≤ a8) && decide (a8 < (a1 : Int)))) (gC (List.drop 1 (List.drop (Int.toNat a8 * 4) a2)) fun x7 x8 => gS x7 fun x9 => ass ((decide ((0 : Int) ≤ a8) && decide (a8 < (a4 : Int)))) (gC (List.drop 1 (List.drop (Int.toNat a8 * 4) a5)) fun x10 x11 => gS x10 fun x12 => cond (!(x9 == x12)) (k0) (ass ((decide ((0 : Int) ≤ a8) && decide (a8 < (a1 : Int)))) (gC (List.drop 2 (List.drop (Int.toNat a8 * 4) a2)) fun x13 x14 => gI .i64 x13 fun x15 => ass ((decide ((0 : Int) ≤ a8) && decide (a8 < (a4 : Int)))) (gC (List.drop 2 (List.drop (Int.toNat a8 * 4) a5)) fun x16 x17 => gI .i64 x16 fun x18 => cond (x15 != x18) (k0) (ass ((decide ((0 : Int) ≤ a8) && decide (a8 < (a1 : Int)))) (gC (List.drop 3 (List.drop (Int.toNat a8 * 4) a2)) fun x19 x20 => gI .i64 x19 fun x21 => ass ((decide ((0 : Int) ≤ a8) && decide (a8 < (a4 : Int)))) (gC (List.drop 3 (List.drop (Int.toNat a8 * 4) a5)) fun x22 x23 => gI .i64 x22 fun x24 => cond ((IntKind.i64.wrap (x21 + a7)) != x24) (k0) (k1 (IntKind.i64.wrap (a8 + (1 : Int)))))))))))))))) (k2)

theorem tS12_2 {ρ : Type} (n d : Nat) (a1 : Nat) (a2 : List D) (a3 : Bool) (a4 : Nat) (a5 : List D) (a6 : Bool) (a7 : Int) (a8 : Int) (K : Ex → List V → List KB → Option ρ) :
    kC (ck12 n (d + 7)) (sp12 n) n c12_24 [(.d (.lst 4 a1 a2 a3)), (.d (.lst 4 a4 a5 a6)), (.d (.int .i64 a7)), vN, vN, vN, vN, (.d (.int .i64 a8)), vN, vN, vN, vN, vN, vN, vN, vN, vN, vN, vN, vN, vN, vN, vN, vN, vN, vN, vN, vN, vN, vN, vN, vN, vN, vN, vN, vN, vN, vN, vN, vN, vN, vN, vN, vN, vN, vN, vN, vN, vN, vN, vN, vN, vN, vN, vN, vN, vN, vN, vN, vN, vN, vN, vN, vN, vN, vN, vN, vN, vN, vN, vN] [] (tidyK ti12_25 [] 0 K) =
    S12_2 n a1 a2 a3 a4 a5 a6 a7 a8 (K .ret [vN, vN, vN, vN, vN, vN, (.d (.bool false)), vN, vN, vN, vN, vN, vN, vN, vN, vN, vN, vN, vN, vN, vN, vN, vN, vN, vN, vN, vN, vN, vN, vN, vN, vN, vN, vN, vN, vN, vN, vN, vN, vN, vN, vN, vN, vN, vN, vN, vN, vN, vN, vN, vN, vN, vN, vN, vN, vN, vN, vN, vN, vN, vN, vN, vN, vN, vN, vN, vN, vN, vN, vN, vN] []) (fun (q1 : Int) => K .nor [(.d (.lst 4 a1 a2 a3)), (.d (.lst 4 a4 a5 a6)), (.d (.int .i64 a7)), vN, vN, vN, vN, (.d (.int .i64 q1)), vN, vN, vN, vN, vN, vN, vN, vN, vN, vN, vN, vN, vN, vN, vN, vN, vN, vN, vN, vN, vN, vN, vN, vN, vN, vN, vN, vN, vN, vN, vN, vN, vN, vN, vN, vN, vN, vN, vN, vN, vN, vN, vN, vN, vN, vN, vN, vN, vN, vN, vN, vN, vN, vN, vN, vN, vN, vN, vN, vN, vN, vN, vN] []) (K (.exit 0) [(.d (.lst 4 a1 a2 a3)), (.d (.lst 4 a4 a5 a6)), (.d (.int .i64 a7)), vN, vN, vN, vN, (.d (.int .i64 a8)), vN, vN, vN, vN, vN, vN, vN, vN, vN, vN, vN, vN, vN, vN, vN, vN, vN, vN, vN, vN, vN, vN, vN, vN, vN, vN, vN, vN, vN, vN, vN, vN, vN, vN, vN, vN, vN, vN, vN, vN, vN, vN, vN, vN, vN, vN, vN, vN, vN, vN, vN, vN, vN, vN, vN, vN, vN, vN, vN, vN, vN, vN, vN] []) := by kernel_rfl

def L12_3 {ρ : Type} (n : Nat) : Nat → Nat → (List D) → Bool → Nat → (List D) → Bool → Int → Int → Option ρ → (Int → Option ρ) → Option ρ
  | 0, _, _, _, _, _, _, _, _, _, _ => none
  | m + 1, a1, a2, a3, a4, a5, a6, a7, a8, k0, k1 => S12_2 n a1 a2 a3 a4 a5 a6 a7 a8 (k0) (fun x1 => L12_3 n m a1 a2 a3 a4 a5 a6 a7 x1 k0 k1) (k1 a8)

theorem tL12_3 {ρ : Type} (n d : Nat) (K : Ex → List V → List KB → Option ρ) : ∀ (m : Nat) (a1 : Nat) (a2 : List D) (a3 : Bool) (a4 : Nat) (a5 : List D) (a6 : Bool) (a7 : Int) (a8 : Int),
    kLoop (kC (ck12 n (d + 7)) (sp12 n) n c12_24) ti12_25 [] m [(.d (.lst 4 a1 a2 a3)), (.d (.lst 4 a4 a5 a6)), (.d (.int .i64 a7)), vN, vN, vN, vN, (.d (.int .i64 a8)), vN, vN, vN, vN, vN, vN, vN, vN, vN, vN, vN, vN, vN, vN, vN, vN, vN, vN, vN, vN, vN, vN, vN, vN, vN, vN, vN, vN, vN, vN, vN, vN, vN, vN, vN, vN, vN, vN, vN, vN, vN, vN, vN, vN, vN, vN, vN, vN, vN, vN, vN, vN, vN, vN, vN, vN, vN, vN, vN, vN, vN, vN, vN] [] K =
    L12_3 n m a1 a2 a3 a4 a5 a6 a7 a8 (K .ret [vN, vN, vN, vN, vN, vN, (.d (.bool false)), vN, vN, vN, vN, vN, vN, vN, vN, vN, vN, vN, vN, vN, vN, vN, vN, vN, vN, vN, vN, vN, vN, vN, vN, vN, vN, vN, vN, vN, vN, vN, vN, vN, vN, vN, vN, vN, vN, vN, vN, vN, vN, vN, vN, vN, vN, vN, vN, vN, vN, vN, vN, vN, vN, vN, vN, vN, vN, vN, vN, vN, vN, vN, vN] []) (fun (q1 : Int) => K (.exit 0) [(.d (.lst 4 a1 a2 a3)), (.d (.lst 4 a4 a5 a6)), (.d (.int .i64 a7)), vN, vN, vN, vN, (.d (.int .i64 q1)), vN, vN, vN, vN, vN, vN, vN, vN, vN, vN, vN, vN, vN, vN, vN, vN, vN, vN, vN, vN, vN, vN, vN, vN, vN, vN, vN, vN, vN, vN, vN, vN, vN, vN, vN, vN, vN, vN, vN, vN, vN, vN, vN, vN, vN, vN, vN, vN, vN, vN, vN, vN, vN, vN, vN, vN, vN, vN, vN, vN, vN, vN, vN] []) := by
  intro m
  induction m with
  | zero => intros; kernel_rfl
  | succ m ih =>
    intro a1 a2 a3 a4 a5 a6 a7 a8
    exact (show _ = kC (ck12 n (d + 7)) (sp12 n) n c12_24 [(.d (.lst 4 a1 a2 a3)), (.d (.lst 4 a4 a5 a6)), (.d (.int .i64 a7)), vN, vN, vN, vN, (.d (.int .i64 a8)), vN, vN, vN, vN, vN, vN, vN, vN, vN, vN, vN, vN, vN, vN, vN, vN, vN, vN, vN, vN, vN, vN, vN, vN, vN, vN, vN, vN, vN, vN, vN, vN, vN, vN, vN, vN, vN, vN, vN, vN, vN, vN, vN, vN, vN, vN, vN, vN, vN, vN, vN, vN, vN, vN, vN, vN, vN, vN, vN, vN, vN, vN, vN] [] (tidyK ti12_25 [] 0  (seqK (kLoop (kC (ck12 n (d + 7)) (sp12 n) n c12_24) ti12_25 [] m) K)) from by kernel_rfl).trans ((tS12_2 n d a1 a2 a3 a4 a5 a6 a7 a8 _).trans (by simp only [seqK_nor, ih, seqK_exit, seqK_ret]; kernel_rfl))

def S12_4 {ρ : Type} (n : Nat) (k0 : Option ρ) : Option ρ :=
  k0

theorem tS12_4 {ρ : Type} (n d : Nat) (K : Out → List KB → Option ρ) :
    (blockK 0 (seqK (kC (ck12 n (d + 7)) (sp12 n) n c12_30) (endK [(.tmp 6 none)] 0 K))) .ret [vN, vN, vN, vN, vN, vN, (.d (.bool false)), vN, vN, vN, vN, vN, vN, vN, vN, vN, vN, vN, vN, vN, vN, vN, vN, vN, vN, vN, vN, vN, vN, vN, vN, vN, vN, vN, vN, vN, vN, vN, vN, vN, vN, vN, vN, vN, vN, vN, vN, vN, vN, vN, vN, vN, vN, vN, vN, vN, vN, vN, vN, vN, vN, vN, vN, vN, vN, vN, vN, vN, vN, vN, vN] [] =
    S12_4 n (K (.ret (.d (.bool false))) []) := by kernel_rfl

def S12_5 {ρ : Type} (n : Nat) (a1 : Nat) (a2 : List D) (a3 : Bool) (a4 : Nat) (a5 : List D) (a6 : Bool) (a7 : Int) (a8 : Int) (k0 : Option ρ) : Option ρ :=
  k0

theorem tS12_5 {ρ : Type} (n d : Nat) (a1 : Nat) (a2 : List D) (a3 : Bool) (a4 : Nat) (a5 : List D) (a6 : Bool) (a7 : Int) (a8 : Int) (K : Out → List KB → Option ρ) :
    (blockK 0 (seqK (kC (ck12 n (d + 7)) (sp12 n) n c12_30) (endK [(.tmp 6 none)] 0 K))) (.exit 0) [(.d (.lst 4 a1 a2 a3)), (.d (.lst 4 a4 a5 a6)), (.d (.int .i64 a7)), vN, vN, vN, vN, (.d (.int .i64 a8)), vN, vN, vN, vN, vN, vN, vN, vN, vN, vN, vN, vN, vN, vN, vN, vN, vN, vN, vN, vN, vN, vN, vN, vN, vN, vN, vN, vN, vN, vN, vN, vN, vN, vN, vN, vN, vN, vN, vN, vN, vN, vN, vN, vN, vN, vN, vN, vN, vN, vN, vN, vN, vN, vN, vN, vN, vN, vN, vN, vN, vN, vN, vN] [] =
    S12_5 n a1 a2 a3 a4 a5 a6 a7 a8 (K (.ret (.d (.bool true))) []) := by kernel_rfl

def S12_1 {ρ : Type} (n : Nat) (a1 : Nat) (a2 : List D) (a3 : Bool) (a4 : Nat) (a5 : List D) (a6 : Bool) (a7 : Int) (k0 : Bool → Option ρ) : Option ρ :=
  cond ((a1 : Int) != (a4 : Int)) (k0 false) (L12_3 n n a1 a2 a3 a4 a5 a6 a7 (0 : Int) (S12_4 n (k0 false)) (fun x1 => S12_5 n a1 a2 a3 a4 a5 a6 a7 x1 (k0 true)))

theorem hS12_1 {ρ : Type} (n d : Nat) (a1 : Nat) (a2 : List D) (a3 : Bool) (a4 : Nat) (a5 : List D) (a6 : Bool) (a7 : Int) (K : Out → List KB → Option ρ) :
    kC (ck12 n (d + 7)) (sp12 n) n c12_33 [(.d (.lst 4 a1 a2 a3)), (.d (.lst 4 a4 a5 a6)), (.d (.int .i64 a7)), vU, vU, vU, vU, vU, vU, vU, vU, vU, vU, vU, vU, vU, vU, vU, vU, vU, vU, vU, vU, vU, vU, vU, vU, vU, vU, vU, vU, vU, vU, vU, vU, vU, vU, vU, vU, vU, vU, vU, vU, vU, vU, vU, vU, vU, vU, vU, vU, vU, vU, vU, vU, vU, vU, vU, vU, vU, vU, vU, vU, vU, vU, vU, vU, vU, vU, vU, vU] [] (endK [(.tmp 6 none)] 0 K) =
    cond ((a1 : Int) != (a4 : Int)) (K (.ret (.d (.bool false))) []) (kLoop (kC (ck12 n (d + 7)) (sp12 n) n c12_24) ti12_25 [] n [(.d (.lst 4 a1 a2 a3)), (.d (.lst 4 a4 a5 a6)), (.d (.int .i64 a7)), vN, vN, vN, vN, (.d (.int .i64 (0))), vN, vN, vN, vN, vN, vN, vN, vN, vN, vN, vN, vN, vN, vN, vN, vN, vN, vN, vN, vN, vN, vN, vN, vN, vN, vN, vN, vN, vN, vN, vN, vN, vN, vN, vN, vN, vN, vN, vN, vN, vN, vN, vN, vN, vN, vN, vN, vN, vN, vN, vN, vN, vN, vN, vN, vN, vN, vN, vN, vN, vN, vN, vN] [] (blockK 0 (seqK (kC (ck12 n (d + 7)) (sp12 n) n c12_30) (endK [(.tmp 6 none)] 0 K)))) := by kernel_rfl

theorem tS12_1 {ρ : Type} (n d : Nat) (a1 : Nat) (a2 : List D) (a3 : Bool) (a4 : Nat) (a5 : List D) (a6 : Bool) (a7 : Int) (K : Out → List KB → Option ρ) :
    kC (ck12 n (d + 7)) (sp12 n) n c12_33 [(.d (.lst 4 a1 a2 a3)), (.d (.lst 4 a4 a5 a6)), (.d (.int .i64 a7)), vU, vU, vU, vU, vU, vU, vU, vU, vU, vU, vU, vU, vU, vU, vU, vU, vU, vU, vU, vU, vU, vU, vU, vU, vU, vU, vU, vU, vU, vU, vU, vU, vU, vU, vU, vU, vU, vU, vU, vU, vU, vU, vU, vU, vU, vU, vU, vU, vU, vU, vU, vU, vU, vU, vU, vU, vU, vU, vU, vU, vU, vU, vU, vU, vU, vU, vU, vU] [] (endK [(.tmp 6 none)] 0 K) =
    S12_1 n a1 a2 a3 a4 a5 a6 a7 (fun (q1 : Bool) => K (.ret (.d (.bool q1))) []) :=
  (hS12_1 n d a1 a2 a3 a4 a5 a6 a7 K).trans (by simp only [tL12_3, tS12_4, tS12_5]; kernel_rfl)

theorem tF12 {ρ : Type} (n d : Nat) (b1 : Nat) (b2 : List D) (b3 : Bool) (b4 : Nat) (b5 : List D) (b6 : Bool) (b7 : Int) (K : Out → List KB → Option ρ) :
    ck12 n (d + 8) 12 [.d (.lst 4 b1 b2 b3), .d (.lst 4 b4 b5 b6), .d (.int .i64 b7)] [] K =
    S12_1 n b1 b2 b3 b4 b5 b6 b7 (fun (q1 : Bool) => K (.ret (.d (.bool q1))) []) :=
  (show _ = kC (ck12 n (d + 7)) (sp12 n) n c12_33 [(.d (.lst 4 b1 b2 b3)), (.d (.lst 4 b4 b5 b6)), (.d (.int .i64 b7)), vU, vU, vU, vU, vU, vU, vU, vU, vU, vU, vU, vU, vU, vU, vU, vU, vU, vU, vU, vU, vU, vU, vU, vU, vU, vU, vU, vU, vU, vU, vU, vU, vU, vU, vU, vU, vU, vU, vU, vU, vU, vU, vU, vU, vU, vU, vU, vU, vU, vU, vU, vU, vU, vU, vU, vU, vU, vU, vU, vU, vU, vU, vU, vU, vU, vU, vU, vU] [] (endK [(.tmp 6 none)] 0 K) from by kernel_rfl).trans (tS12_1 n d b1 b2 b3 b4 b5 b6 b7 K)

def F12 (n : Nat) : Ev.Fn
  | [(.lst 4 b1 b2 b3), (.lst 4 b4 b5 b6), (.int .i64 b7)] => S12_1 n b1 b2 b3 b4 b5 b6 b7 (fun (q1 : Bool) => some (.bool q1))
  | _ => none

theorem p12 (n : Nat) : Pure Tryd.prog YtgkjmdbjncnlpaaDoor.GL 12 (F12 n) := by
  refine pure_k bodyOK (spok12 n) (mkSp_S _) mix (callable_of (by kernel_rfl)) n 8 ?_
  intro ds x h
  unfold F12 at h
  split at h
  · rename_i b1 b2 b3 b4 b5 b6 b7
    rw [← h]
    exact (tF12 n 0 b1 b2 b3 b4 b5 b6 b7 fin).trans (by kernel_rfl)
  · cases h

def spl15 (n : Nat) : List (FuncId × Ev.Fn) := []

def sp15 (n : Nat) : SpecT := mkSp isS (spl15 n)

theorem spok15 (n : Nat) : SpecOK Tryd.prog YtgkjmdbjncnlpaaDoor.GL (sp15 n) := mkSp_ok callS all_nil

def ck15 {ρ : Type} (n d : Nat) : CallK ρ := kF body (sp15 n) n d

def S15_2 {ρ : Type} (n : Nat) (a1 : Nat) (a2 : List D) (a3 : Bool) (a4 : Nat) (a5 : List D) (a6 : Bool) (a7 : Int) (k0 : Option ρ) (k1 : Int → Option ρ) (k2 : Option ρ) : Option ρ :=
  cond (decide (a7 < (a1 : Int))) (ass ((decide ((0 : Int) ≤ a7) && decide (a7 < (a1 : Int)))) (gC (List.drop (Int.toNat a7 * 4) a2) fun x1 x2 => gI .i64 x1 fun x3 => ass ((decide ((0 : Int) ≤ a7) && decide (a7 < (a4 : Int)))) (gC (List.drop (Int.toNat a7 * 4) a5) fun x4 x5 => gI .i64 x4 fun x6 => cond (x3 != x6) (k0) (ass ((decide ((0 : Int) ≤ a7) && decide (a7 < (a1 : Int)))) (gC (List.drop 1 (List.drop (Int.toNat a7 * 4) a2)) fun x7 x8 => gS x7 fun x9 => ass ((decide ((0 : Int) ≤ a7) && decide (a7 < (a4 : Int)))) (gC (List.drop 1 (List.drop (Int.toNat a7 * 4) a5)) fun x10 x11 => gS x10 fun x12 => cond (!(x9 == x12)) (k0) (ass ((decide ((0 : Int) ≤ a7) && decide (a7 < (a1 : Int)))) (gC (List.drop 2 (List.drop (Int.toNat a7 * 4) a2)) fun x13 x14 => gI .i64 x13 fun x15 => ass ((decide ((0 : Int) ≤ a7) && decide (a7 < (a4 : Int)))) (gC (List.drop 2 (List.drop (Int.toNat a7 * 4) a5)) fun x16 x17 => gI .i64 x16 fun x18 => cond (x15 != x18) (k0) (k1 (IntKind.i64.wrap (a7 + (1 : Int))))))))))))) (k2)

theorem tS15_2 {ρ : Type} (n d : Nat) (a1 : Nat) (a2 : List D) (a3 : Bool) (a4 : Nat) (a5 : List D) (a6 : Bool) (a7 : Int) (K : Ex → List V → List KB → Option ρ) :
    kC (ck15 n (d + 7)) (sp15 n) n c15_24 [(.d (.lst 4 a1 a2 a3)), (.d (.lst 4 a4 a5 a6)), vN, vN, vN, (.d (.int .i64 a7)), vN, vN, vN, vN, vN, vN, vN, vN, vN, vN, vN, vN, vN, vN, vN, vN, vN, vN, vN, vN, vN, vN, vN, vN, vN, vN, vN, vN, vN, vN, vN, vN, vN, vN, vN, vN, vN, vN, vN, vN, vN, vN, vN, vN, vN, vN, vN, vN] [] (tidyK ti15_25 [] 0 K) =
    S15_2 n a1 a2 a3 a4 a5 a6 a7 (K .ret [vN, vN, vN, vN, (.d (.bool false)), vN, vN, vN, vN, vN, vN, vN, vN, vN, vN, vN, vN, vN, vN, vN, vN, vN, vN, vN, vN, vN, vN, vN, vN, vN, vN, vN, vN, vN, vN, vN, vN, vN, vN, vN, vN, vN, vN, vN, vN, vN, vN, vN, vN, vN, vN, vN, vN, vN] []) (fun (q1 : Int) => K .nor [(.d (.lst 4 a1 a2 a3)), (.d (.lst 4 a4 a5 a6)), vN, vN, vN, (.d (.int .i64 q1)), vN, vN, vN, vN, vN, vN, vN, vN, vN, vN, vN, vN, vN, vN, vN, vN, vN, vN, vN, vN, vN, vN, vN, vN, vN, vN, vN, vN, vN, vN, vN, vN, vN, vN, vN, vN, vN, vN, vN, vN, vN, vN, vN, vN, vN, vN, vN, vN] []) (K (.exit 0) [(.d (.lst 4 a1 a2 a3)), (.d (.lst 4 a4 a5 a6)), vN, vN, vN, (.d (.int .i64 a7)), vN, vN, vN, vN, vN, vN, vN, vN, vN, vN, vN, vN, vN, vN, vN, vN, vN, vN, vN, vN, vN, vN, vN, vN, vN, vN, vN, vN, vN, vN, vN, vN, vN, vN, vN, vN, vN, vN, vN, vN, vN, vN, vN, vN, vN, vN, vN, vN] []) := by kernel_rfl

def L15_3 {ρ : Type} (n : Nat) : Nat → Nat → (List D) → Bool → Nat → (List D) → Bool → Int → Option ρ → (Int → Option ρ) → Option ρ
  | 0, _, _, _, _, _, _, _, _, _ => none
  | m + 1, a1, a2, a3, a4, a5, a6, a7, k0, k1 => S15_2 n a1 a2 a3 a4 a5 a6 a7 (k0) (fun x1 => L15_3 n m a1 a2 a3 a4 a5 a6 x1 k0 k1) (k1 a7)

theorem tL15_3 {ρ : Type} (n d : Nat) (K : Ex → List V → List KB → Option ρ) : ∀ (m : Nat) (a1 : Nat) (a2 : List D) (a3 : Bool) (a4 : Nat) (a5 : List D) (a6 : Bool) (a7 : Int),
    kLoop (kC (ck15 n (d + 7)) (sp15 n) n c15_24) ti15_25 [] m [(.d (.lst 4 a1 a2 a3)), (.d (.lst 4 a4 a5 a6)), vN, vN, vN, (.d (.int .i64 a7)), vN, vN, vN, vN, vN, vN, vN, vN, vN, vN, vN, vN, vN, vN, vN, vN, vN, vN, vN, vN, vN, vN, vN, vN, vN, vN, vN, vN, vN, vN, vN, vN, vN, vN, vN, vN, vN, vN, vN, vN, vN, vN, vN, vN, vN, vN, vN, vN] [] K =
    L15_3 n m a1 a2 a3 a4 a5 a6 a7 (K .ret [vN, vN, vN, vN, (.d (.bool false)), vN, vN, vN, vN, vN, vN, vN, vN, vN, vN, vN, vN, vN, vN, vN, vN, vN, vN, vN, vN, vN, vN, vN, vN, vN, vN, vN, vN, vN, vN, vN, vN, vN, vN, vN, vN, vN, vN, vN, vN, vN, vN, vN, vN, vN, vN, vN, vN, vN] []) (fun (q1 : Int) => K (.exit 0) [(.d (.lst 4 a1 a2 a3)), (.d (.lst 4 a4 a5 a6)), vN, vN, vN, (.d (.int .i64 q1)), vN, vN, vN, vN, vN, vN, vN, vN, vN, vN, vN, vN, vN, vN, vN, vN, vN, vN, vN, vN, vN, vN, vN, vN, vN, vN, vN, vN, vN, vN, vN, vN, vN, vN, vN, vN, vN, vN, vN, vN, vN, vN, vN, vN, vN, vN, vN, vN] []) := by
  intro m
  induction m with
  | zero => intros; kernel_rfl
  | succ m ih =>
    intro a1 a2 a3 a4 a5 a6 a7
    exact (show _ = kC (ck15 n (d + 7)) (sp15 n) n c15_24 [(.d (.lst 4 a1 a2 a3)), (.d (.lst 4 a4 a5 a6)), vN, vN, vN, (.d (.int .i64 a7)), vN, vN, vN, vN, vN, vN, vN, vN, vN, vN, vN, vN, vN, vN, vN, vN, vN, vN, vN, vN, vN, vN, vN, vN, vN, vN, vN, vN, vN, vN, vN, vN, vN, vN, vN, vN, vN, vN, vN, vN, vN, vN, vN, vN, vN, vN, vN, vN] [] (tidyK ti15_25 [] 0  (seqK (kLoop (kC (ck15 n (d + 7)) (sp15 n) n c15_24) ti15_25 [] m) K)) from by kernel_rfl).trans ((tS15_2 n d a1 a2 a3 a4 a5 a6 a7 _).trans (by simp only [seqK_nor, ih, seqK_exit, seqK_ret]; kernel_rfl))

def S15_4 {ρ : Type} (n : Nat) (k0 : Option ρ) : Option ρ :=
  k0

theorem tS15_4 {ρ : Type} (n d : Nat) (K : Out → List KB → Option ρ) :
    (blockK 0 (seqK (kC (ck15 n (d + 7)) (sp15 n) n c15_30) (endK [(.tmp 4 none)] 0 K))) .ret [vN, vN, vN, vN, (.d (.bool false)), vN, vN, vN, vN, vN, vN, vN, vN, vN, vN, vN, vN, vN, vN, vN, vN, vN, vN, vN, vN, vN, vN, vN, vN, vN, vN, vN, vN, vN, vN, vN, vN, vN, vN, vN, vN, vN, vN, vN, vN, vN, vN, vN, vN, vN, vN, vN, vN, vN] [] =
    S15_4 n (K (.ret (.d (.bool false))) []) := by kernel_rfl

def S15_5 {ρ : Type} (n : Nat) (a1 : Nat) (a2 : List D) (a3 : Bool) (a4 : Nat) (a5 : List D) (a6 : Bool) (a7 : Int) (k0 : Option ρ) : Option ρ :=
  k0

theorem tS15_5 {ρ : Type} (n d : Nat) (a1 : Nat) (a2 : List D) (a3 : Bool) (a4 : Nat) (a5 : List D) (a6 : Bool) (a7 : Int) (K : Out → List KB → Option ρ) :
    (blockK 0 (seqK (kC (ck15 n (d + 7)) (sp15 n) n c15_30) (endK [(.tmp 4 none)] 0 K))) (.exit 0) [(.d (.lst 4 a1 a2 a3)), (.d (.lst 4 a4 a5 a6)), vN, vN, vN, (.d (.int .i64 a7)), vN, vN, vN, vN, vN, vN, vN, vN, vN, vN, vN, vN, vN, vN, vN, vN, vN, vN, vN, vN, vN, vN, vN, vN, vN, vN, vN, vN, vN, vN, vN, vN, vN, vN, vN, vN, vN, vN, vN, vN, vN, vN, vN, vN, vN, vN, vN, vN] [] =
    S15_5 n a1 a2 a3 a4 a5 a6 a7 (K (.ret (.d (.bool true))) []) := by kernel_rfl

def S15_1 {ρ : Type} (n : Nat) (a1 : Nat) (a2 : List D) (a3 : Bool) (a4 : Nat) (a5 : List D) (a6 : Bool) (k0 : Bool → Option ρ) : Option ρ :=
  cond ((a1 : Int) != (a4 : Int)) (k0 false) (L15_3 n n a1 a2 a3 a4 a5 a6 (0 : Int) (S15_4 n (k0 false)) (fun x1 => S15_5 n a1 a2 a3 a4 a5 a6 x1 (k0 true)))

theorem hS15_1 {ρ : Type} (n d : Nat) (a1 : Nat) (a2 : List D) (a3 : Bool) (a4 : Nat) (a5 : List D) (a6 : Bool) (K : Out → List KB → Option ρ) :
    kC (ck15 n (d + 7)) (sp15 n) n c15_33 [(.d (.lst 4 a1 a2 a3)), (.d (.lst 4 a4 a5 a6)), vU, vU, vU, vU, vU, vU, vU, vU, vU, vU, vU, vU, vU, vU, vU, vU, vU, vU, vU, vU, vU, vU, vU, vU, vU, vU, vU, vU, vU, vU, vU, vU, vU, vU, vU, vU, vU, vU, vU, vU, vU, vU, vU, vU, vU, vU, vU, vU, vU, vU, vU, vU] [] (endK [(.tmp 4 none)] 0 K) =
    cond ((a1 : Int) != (a4 : Int)) (K (.ret (.d (.bool false))) []) (kLoop (kC (ck15 n (d + 7)) (sp15 n) n c15_24) ti15_25 [] n [(.d (.lst 4 a1 a2 a3)), (.d (.lst 4 a4 a5 a6)), vN, vN, vN, (.d (.int .i64 (0))), vN, vN, vN, vN, vN, vN, vN, vN, vN, vN, vN, vN, vN, vN, vN, vN, vN, vN, vN, vN, vN, vN, vN, vN, vN, vN, vN, vN, vN, vN, vN, vN, vN, vN, vN, vN, vN, vN, vN, vN, vN, vN, vN, vN, vN, vN, vN, vN] [] (blockK 0 (seqK (kC (ck15 n (d + 7)) (sp15 n) n c15_30) (endK [(.tmp 4 none)] 0 K)))) := by kernel_rfl

theorem tS15_1 {ρ : Type} (n d : Nat) (a1 : Nat) (a2 : List D) (a3 : Bool) (a4 : Nat) (a5 : List D) (a6 : Bool) (K : Out → List KB → Option ρ) :
    kC (ck15 n (d + 7)) (sp15 n) n c15_33 [(.d (.lst 4 a1 a2 a3)), (.d (.lst 4 a4 a5 a6)), vU, vU, vU, vU, vU, vU, vU, vU, vU, vU, vU, vU, vU, vU, vU, vU, vU, vU, vU, vU, vU, vU, vU, vU, vU, vU, vU, vU, vU, vU, vU, vU, vU, vU, vU, vU, vU, vU, vU, vU, vU, vU, vU, vU, vU, vU, vU, vU, vU, vU, vU, vU] [] (endK [(.tmp 4 none)] 0 K) =
    S15_1 n a1 a2 a3 a4 a5 a6 (fun (q1 : Bool) => K (.ret (.d (.bool q1))) []) :=
  (hS15_1 n d a1 a2 a3 a4 a5 a6 K).trans (by simp only [tL15_3, tS15_4, tS15_5]; kernel_rfl)

theorem tF15 {ρ : Type} (n d : Nat) (b1 : Nat) (b2 : List D) (b3 : Bool) (b4 : Nat) (b5 : List D) (b6 : Bool) (K : Out → List KB → Option ρ) :
    ck15 n (d + 8) 15 [.d (.lst 4 b1 b2 b3), .d (.lst 4 b4 b5 b6)] [] K =
    S15_1 n b1 b2 b3 b4 b5 b6 (fun (q1 : Bool) => K (.ret (.d (.bool q1))) []) :=
  (show _ = kC (ck15 n (d + 7)) (sp15 n) n c15_33 [(.d (.lst 4 b1 b2 b3)), (.d (.lst 4 b4 b5 b6)), vU, vU, vU, vU, vU, vU, vU, vU, vU, vU, vU, vU, vU, vU, vU, vU, vU, vU, vU, vU, vU, vU, vU, vU, vU, vU, vU, vU, vU, vU, vU, vU, vU, vU, vU, vU, vU, vU, vU, vU, vU, vU, vU, vU, vU, vU, vU, vU, vU, vU, vU, vU] [] (endK [(.tmp 4 none)] 0 K) from by kernel_rfl).trans (tS15_1 n d b1 b2 b3 b4 b5 b6 K)

def F15 (n : Nat) : Ev.Fn
  | [(.lst 4 b1 b2 b3), (.lst 4 b4 b5 b6)] => S15_1 n b1 b2 b3 b4 b5 b6 (fun (q1 : Bool) => some (.bool q1))
  | _ => none

theorem p15 (n : Nat) : Pure Tryd.prog YtgkjmdbjncnlpaaDoor.GL 15 (F15 n) := by
  refine pure_k bodyOK (spok15 n) (mkSp_S _) mix (callable_of (by kernel_rfl)) n 8 ?_
  intro ds x h
  unfold F15 at h
  split at h
  · rename_i b1 b2 b3 b4 b5 b6
    rw [← h]
    exact (tF15 n 0 b1 b2 b3 b4 b5 b6 fin).trans (by kernel_rfl)
  · cases h

def spl17 (n : Nat) : List (FuncId × Ev.Fn) := [(10, F10 n)]

def sp17 (n : Nat) : SpecT := mkSp isS (spl17 n)

theorem spok17 (n : Nat) : SpecOK Tryd.prog YtgkjmdbjncnlpaaDoor.GL (sp17 n) := mkSp_ok callS (all_cons (p10 n) all_nil)

def ck17 {ρ : Type} (n d : Nat) : CallK ρ := kF body (sp17 n) n d

def S17_1 {ρ : Type} (n : Nat) (a1 : List UInt8) (a2 : Int) (a3 : Int) (k0 : Bool → Option ρ) : Option ρ :=
  (F10 n [(.str a1)]).bind fun x1 => gT x1 fun x2 => gC x2 fun x3 x4 => gL 4 x3 fun x5 x6 x7 => gC x4 fun x8 x9 => gI .i64 x8 fun x10 => gC x9 fun x11 x12 => gI .i64 x11 fun x13 => gE x12 (cond ((x5 : Int) == (0 : Int)) (cond (x10 == a2) (k0 (x13 == a3)) (k0 false)) (k0 false))

theorem tS17_1 {ρ : Type} (n d : Nat) (a1 : List UInt8) (a2 : Int) (a3 : Int) (K : Out → List KB → Option ρ) :
    kC (ck17 n (d + 7)) (sp17 n) n c17_6 [(.d (.str a1)), (.d (.int .i64 a2)), (.d (.int .i64 a3)), vU, vU, vU, vU, vU, vU, vU, vU, vU, vU, vU, vU, vU, vU, vU, vU, vU, vU, vU, vU, vU, vU, vU, vU, vU, vU] [] (endK [(.tmp 6 none)] 0 K) =
    S17_1 n a1 a2 a3 (fun (q1 : Bool) => K (.ret (.d (.bool q1))) []) := by kernel_rfl

theorem tF17 {ρ : Type} (n d : Nat) (b1 : List UInt8) (b2 : Int) (b3 : Int) (K : Out → List KB → Option ρ) :
    ck17 n (d + 8) 17 [.d (.str b1), .d (.int .i64 b2), .d (.int .i64 b3)] [] K =
    S17_1 n b1 b2 b3 (fun (q1 : Bool) => K (.ret (.d (.bool q1))) []) :=
  (show _ = kC (ck17 n (d + 7)) (sp17 n) n c17_6 [(.d (.str b1)), (.d (.int .i64 b2)), (.d (.int .i64 b3)), vU, vU, vU, vU, vU, vU, vU, vU, vU, vU, vU, vU, vU, vU, vU, vU, vU, vU, vU, vU, vU, vU, vU, vU, vU, vU] [] (endK [(.tmp 6 none)] 0 K) from by kernel_rfl).trans (tS17_1 n d b1 b2 b3 K)

def F17 (n : Nat) : Ev.Fn
  | [(.str b1), (.int .i64 b2), (.int .i64 b3)] => S17_1 n b1 b2 b3 (fun (q1 : Bool) => some (.bool q1))
  | _ => none

theorem p17 (n : Nat) : Pure Tryd.prog YtgkjmdbjncnlpaaDoor.GL 17 (F17 n) := by
  refine pure_k bodyOK (spok17 n) (mkSp_S _) mix (callable_of (by kernel_rfl)) n 8 ?_
  intro ds x h
  unfold F17 at h
  split at h
  · rename_i b1 b2 b3
    rw [← h]
    exact (tF17 n 0 b1 b2 b3 fin).trans (by kernel_rfl)
  · cases h

def spl23 (R : Nat → Ev.Fn) (n : Nat) : List (FuncId × Ev.Fn) := [(23, R 23)]

def sp23 (R : Nat → Ev.Fn) (n : Nat) : SpecT := mkSp isS (spl23 R n)

theorem spok23 (R : Nat → Ev.Fn) (hR : ∀ g, g ∈ ([23] : List Nat) → Pure Tryd.prog YtgkjmdbjncnlpaaDoor.GL g (R g)) (n : Nat) : SpecOK Tryd.prog YtgkjmdbjncnlpaaDoor.GL (sp23 R n) := mkSp_ok callS (all_cons (hR 23 (by decide)) all_nil)

def ck23 {ρ : Type} (R : Nat → Ev.Fn) (n d : Nat) : CallK ρ := kF body (sp23 R n) n d

def S23_1 {ρ : Type} (R : Nat → Ev.Fn) (n : Nat) (a1 : Int) (k0 : (List UInt8) → Option ρ) : Option ρ :=
  cond (decide (a1 < (10 : Int))) (ass ((decide ((0 : Int) ≤ (IntKind.u8.wrap (IntKind.i64.wrap ((48 : Int) + a1)))) && decide ((IntKind.u8.wrap (IntKind.i64.wrap ((48 : Int) + a1))) < (256 : Int)))) (k0 ([UInt8.ofNat (Int.toNat (IntKind.u8.wrap (IntKind.i64.wrap ((48 : Int) + a1))))] : List UInt8))) ((R 23 [(.int .i64 (IntKind.i64.wrap (Int.tdiv a1 (10 : Int))))]).bind fun x1 => gS x1 fun x2 => ass ((decide ((0 : Int) ≤ (IntKind.u8.wrap (IntKind.i64.wrap ((48 : Int) + (Int.tmod a1 (10 : Int)))))) && decide ((IntKind.u8.wrap (IntKind.i64.wrap ((48 : Int) + (Int.tmod a1 (10 : Int))))) < (256 : Int)))) (ass ((fitsS (x2.length + ([UInt8.ofNat (Int.toNat (IntKind.u8.wrap (IntKind.i64.wrap ((48 : Int) + (Int.tmod a1 (10 : Int))))))] : List UInt8).length))) (k0 (x2 ++ ([UInt8.ofNat (Int.toNat (IntKind.u8.wrap (IntKind.i64.wrap ((48 : Int) + (Int.tmod a1 (10 : Int))))))] : List UInt8)))))

theorem tS23_1 {ρ : Type} (R : Nat → Ev.Fn) (n d : Nat) (a1 : Int) (K : Out → List KB → Option ρ) :
    kC (ck23 R n (d + 7)) (sp23 R n) n c23_12 [(.d (.int .i64 a1)), vU, vU, vU, vU, vU, vU, vU, vU, vU, vU, vU, vU, vU, vU, vU, vU, vU, vU, vU] [] (endK [(.tmp 2 none)] 0 K) =
    S23_1 R n a1 (fun (q1 : List UInt8) => K (.ret (.d (.str q1))) []) := by kernel_rfl

theorem tF23 {ρ : Type} (R : Nat → Ev.Fn) (n d : Nat) (b1 : Int) (K : Out → List KB → Option ρ) :
    ck23 R n (d + 8) 23 [.d (.int .i64 b1)] [] K =
    S23_1 R n b1 (fun (q1 : List UInt8) => K (.ret (.d (.str q1))) []) :=
  (show _ = kC (ck23 R n (d + 7)) (sp23 R n) n c23_12 [(.d (.int .i64 b1)), vU, vU, vU, vU, vU, vU, vU, vU, vU, vU, vU, vU, vU, vU, vU, vU, vU, vU, vU] [] (endK [(.tmp 2 none)] 0 K) from by kernel_rfl).trans (tS23_1 R n d b1 K)

def F23B (R : Nat → Ev.Fn) (n : Nat) : Ev.Fn
  | [(.int .i64 b1)] => S23_1 R n b1 (fun (q1 : List UInt8) => some (.str q1))
  | _ => none

theorem p23B (R : Nat → Ev.Fn) (hR : ∀ g, g ∈ ([23] : List Nat) → Pure Tryd.prog YtgkjmdbjncnlpaaDoor.GL g (R g)) (n : Nat) : Pure Tryd.prog YtgkjmdbjncnlpaaDoor.GL 23 (F23B R n) := by
  refine pure_k bodyOK (spok23 R hR n) (mkSp_S _) mix (callable_of (by kernel_rfl)) n 8 ?_
  intro ds x h
  unfold F23B at h
  split at h
  · rename_i b1
    rw [← h]
    exact (tF23 R n 0 b1 fin).trans (by kernel_rfl)
  · cases h

def FR23 (n : Nat) : Nat → Nat → Ev.Fn
  | 0 => fun _ _ => none
  | m + 1 => fun g => match g with
    | 23 => F23B (FR23 n m) n
    | _ => fun _ => none

theorem pR23 (n : Nat) : ∀ (m g : Nat), g ∈ ([23] : List Nat) → Pure Tryd.prog YtgkjmdbjncnlpaaDoor.GL g (FR23 n m g) := by
  intro m
  induction m with
  | zero => intro g h; exact ⟨callS g (by revert g; decide), fun _ _ _ _ _ _ _ _ h => by cases h⟩
  | succ m ih =>
    intro g h
    simp only [List.mem_cons, List.not_mem_nil, or_false] at h
    rcases h with rfl
    · exact p23B (FR23 n m) ih n

def F23 (n : Nat) : Ev.Fn := FR23 n n 23

theorem p23 (n : Nat) : Pure Tryd.prog YtgkjmdbjncnlpaaDoor.GL 23 (F23 n) := pR23 n n 23 (by decide)

def spl13 (n : Nat) : List (FuncId × Ev.Fn) := [(23, F23 n)]

def sp13 (n : Nat) : SpecT := mkSp isS (spl13 n)

theorem spok13 (n : Nat) : SpecOK Tryd.prog YtgkjmdbjncnlpaaDoor.GL (sp13 n) := mkSp_ok callS (all_cons (p23 n) all_nil)

def ck13 {ρ : Type} (n d : Nat) : CallK ρ := kF body (sp13 n) n d

def S13_1 {ρ : Type} (n : Nat) (a1 : Int) (a2 : List UInt8) (a3 : Int) (a4 : Int) (k0 : (List UInt8) → Option ρ) : Option ρ :=
  cond (a1 == (2 : Int)) ((F23 n [(.int .i64 (if a3 > (0 : Int) then a3 else (0 : Int)))]).bind fun x1 => gS x1 fun x2 => k0 x2) (k0 a2)

theorem tS13_1 {ρ : Type} (n d : Nat) (a1 : Int) (a2 : List UInt8) (a3 : Int) (a4 : Int) (K : Out → List KB → Option ρ) :
    kC (ck13 n (d + 7)) (sp13 n) n c13_12 [(.d (.agg [(.int .i64 a1), (.str a2), (.int .i64 a3), (.int .i64 a4)])), vU, vU, vU, vU, vU, vU, vU, vU, vU, vU, vU] [] (endK [(.tmp 2 none)] 0 K) =
    S13_1 n a1 a2 a3 a4 (fun (q1 : List UInt8) => K (.ret (.d (.str q1))) []) := by kernel_rfl

theorem tF13 {ρ : Type} (n d : Nat) (b1 : Int) (b2 : List UInt8) (b3 : Int) (b4 : Int) (K : Out → List KB → Option ρ) :
    ck13 n (d + 8) 13 [.d (.agg [(.int .i64 b1), (.str b2), (.int .i64 b3), (.int .i64 b4)])] [] K =
    S13_1 n b1 b2 b3 b4 (fun (q1 : List UInt8) => K (.ret (.d (.str q1))) []) :=
  (show _ = kC (ck13 n (d + 7)) (sp13 n) n c13_12 [(.d (.agg [(.int .i64 b1), (.str b2), (.int .i64 b3), (.int .i64 b4)])), vU, vU, vU, vU, vU, vU, vU, vU, vU, vU, vU] [] (endK [(.tmp 2 none)] 0 K) from by kernel_rfl).trans (tS13_1 n d b1 b2 b3 b4 K)

def F13 (n : Nat) : Ev.Fn
  | [(.agg [(.int .i64 b1), (.str b2), (.int .i64 b3), (.int .i64 b4)])] => S13_1 n b1 b2 b3 b4 (fun (q1 : List UInt8) => some (.str q1))
  | _ => none

theorem p13 (n : Nat) : Pure Tryd.prog YtgkjmdbjncnlpaaDoor.GL 13 (F13 n) := by
  refine pure_k bodyOK (spok13 n) (mkSp_S _) mix (callable_of (by kernel_rfl)) n 8 ?_
  intro ds x h
  unfold F13 at h
  split at h
  · rename_i b1 b2 b3 b4
    rw [← h]
    exact (tF13 n 0 b1 b2 b3 b4 fin).trans (by kernel_rfl)
  · cases h

def spl9 (n : Nat) : List (FuncId × Ev.Fn) := [(10, F10 n), (12, F12 n), (17, F17 n)]

def sp9 (n : Nat) : SpecT := mkSp isS (spl9 n)

theorem spok9 (n : Nat) : SpecOK Tryd.prog YtgkjmdbjncnlpaaDoor.GL (sp9 n) := mkSp_ok callS (all_cons (p10 n) (all_cons (p12 n) (all_cons (p17 n) all_nil)))

def ck9 {ρ : Type} (n d : Nat) : CallK ρ := kF body (sp9 n) n d

def S9_1 {ρ : Type} (n : Nat) (k0 : Bool → Option ρ) : Option ρ :=
  (F10 n [(.str [98, 97, 121, 32, 98, 49, 123, 125, 35, 120])]).bind fun x1 => gT x1 fun x2 => gC x2 fun x3 x4 => gL 4 x3 fun x5 x6 x7 => gC x4 fun x8 x9 => gI .i64 x8 fun x10 => gC x9 fun x11 x12 => gI .i64 x11 fun x13 => gE x12 ((F10 n [(.str [49, 50, 97, 98, 59])]).bind fun x14 => gT x14 fun x15 => gC x15 fun x16 x17 => gL 4 x16 fun x18 x19 x20 => gC x17 fun x21 x22 => gI .i64 x21 fun x23 => gC x22 fun x24 x25 => gI .i64 x24 fun x26 => gE x25 (cond (x10 == (0 : Int)) (cond (x23 == (0 : Int)) ((F17 n [(.str [97, 116, 32, 48, 48, 55]), (.int .i64 (7)), (.int .i64 (3))]).bind fun x27 => gB x27 fun x28 => cond x28 ((F17 n [(.str [97, 109, 112, 115, 32, 49, 48, 48, 48, 48, 48, 49]), (.int .i64 (3)), (.int .i64 (5))]).bind fun x29 => gB x29 fun x30 => cond x30 ((F17 n [(.str [111, 110, 44, 32, 119, 111, 114, 107]), (.int .i64 (7)), (.int .i64 (2))]).bind fun x31 => gB x31 fun x32 => cond x32 ((F17 n [(.str [97, 32, 97, 98, 99, 100, 101, 102, 103, 104, 105, 106, 107, 108, 109]), (.int .i64 (3)), (.int .i64 (2))]).bind fun x33 => gB x33 fun x34 => cond x34 ((F12 n [(.lst 4 x5 x6 x7), (.lst 4 4 [(.int .i64 (1)), (.str [98, 97, 121]), (.int .i64 (0)), (.int .i64 (0)), (.int .i64 (1)), (.str [98, 49]), (.int .i64 (0)), (.int .i64 (4)), (.int .i64 (3)), (.str [123]), (.int .i64 (0)), (.int .i64 (6)), (.int .i64 (3)), (.str [125]), (.int .i64 (0)), (.int .i64 (7))] true), (.int .i64 (0))]).bind fun x35 => gB x35 fun x36 => cond x36 ((F12 n [(.lst 4 x18 x19 x20), (.lst 4 3 [(.int .i64 (2)), (.str []), (.int .i64 (12)), (.int .i64 (0)), (.int .i64 (1)), (.str [97, 98]), (.int .i64 (0)), (.int .i64 (2)), (.int .i64 (3)), (.str [59]), (.int .i64 (0)), (.int .i64 (4))] true), (.int .i64 (0))]).bind fun x37 => gB x37 fun x38 => k0 x38) (k0 false)) (k0 false)) (k0 false)) (k0 false)) (k0 false)) (k0 false)) (k0 false)))

theorem tS9_1 {ρ : Type} (n d : Nat) (K : Out → List KB → Option ρ) :
    kC (ck9 n (d + 7)) (sp9 n) n c9_8 [vU, vU, vU, vU, vU, vU, vU, vU, vU, vU, vU, vU, vU, vU, vU, vU, vU, vU, vU, vU, vU, vU, vU, vU, vU, vU, vU, vU, vU, vU, vU, vU, vU, vU, vU, vU, vU, vU, vU, vU, vU, vU, vU, vU, vU, vU, vU, vU, vU, vU, vU, vU] [] (endK [(.tmp 0 none)] 0 K) =
    S9_1 n (fun (q1 : Bool) => K (.ret (.d (.bool q1))) []) := by kernel_rfl

theorem tF9 {ρ : Type} (n d : Nat) (K : Out → List KB → Option ρ) :
    ck9 n (d + 8) 9 [] [] K =
    S9_1 n (fun (q1 : Bool) => K (.ret (.d (.bool q1))) []) :=
  (show _ = kC (ck9 n (d + 7)) (sp9 n) n c9_8 [vU, vU, vU, vU, vU, vU, vU, vU, vU, vU, vU, vU, vU, vU, vU, vU, vU, vU, vU, vU, vU, vU, vU, vU, vU, vU, vU, vU, vU, vU, vU, vU, vU, vU, vU, vU, vU, vU, vU, vU, vU, vU, vU, vU, vU, vU, vU, vU, vU, vU, vU, vU] [] (endK [(.tmp 0 none)] 0 K) from by kernel_rfl).trans (tS9_1 n d K)

def F9 (n : Nat) : Ev.Fn
  | [] => S9_1 n (fun (q1 : Bool) => some (.bool q1))
  | _ => none

theorem p9 (n : Nat) : Pure Tryd.prog YtgkjmdbjncnlpaaDoor.GL 9 (F9 n) := by
  refine pure_k bodyOK (spok9 n) (mkSp_S _) mix (callable_of (by kernel_rfl)) n 8 ?_
  intro ds x h
  unfold F9 at h
  split at h
  · rw [← h]
    exact (tF9 n 0 fin).trans (by kernel_rfl)
  · cases h

def spl3 (n : Nat) : List (FuncId × Ev.Fn) := [(9, F9 n), (10, F10 n), (11, F11 n), (12, F12 n)]

def sp3 (n : Nat) : SpecT := mkSp isS (spl3 n)

theorem spok3 (n : Nat) : SpecOK Tryd.prog YtgkjmdbjncnlpaaDoor.GL (sp3 n) := mkSp_ok callS (all_cons (p9 n) (all_cons (p10 n) (all_cons (p11 n) (all_cons (p12 n) all_nil))))

def ck3 {ρ : Type} (n d : Nat) : CallK ρ := kF body (sp3 n) n d

def S3_1 {ρ : Type} (n : Nat) (a1 : List UInt8) (k0 : Bool → Option ρ) : Option ρ :=
  (F9 n []).bind fun x1 => gB x1 fun x2 => cond (decide ((List.length a1 : Int) > (10000 : Int))) (k0 x2) ((F10 n [(.str a1)]).bind fun x3 => gT x3 fun x4 => gC x4 fun x5 x6 => gL 4 x5 fun x7 x8 x9 => gC x6 fun x10 x11 => gI .i64 x10 fun x12 => gC x11 fun x13 x14 => gI .i64 x13 fun x15 => gE x14 ((F11 n [(.str a1)]).bind fun x16 => gT x16 fun x17 => gC x17 fun x18 x19 => gL 4 x18 fun x20 x21 x22 => gC x19 fun x23 x24 => gI .i64 x23 fun x25 => gC x24 fun x26 x27 => gI .i64 x26 fun x28 => gE x27 (cond x2 ((F12 n [(.lst 4 x7 x8 x9), (.lst 4 x20 x21 x22), (.int .i64 (0))]).bind fun x29 => gB x29 fun x30 => cond x30 (cond (x12 == x25) (k0 (x15 == x28)) (k0 false)) (k0 false)) (k0 false))))

theorem tS3_1 {ρ : Type} (n d : Nat) (a1 : List UInt8) (K : Out → List KB → Option ρ) :
    kC (ck3 n (d + 7)) (sp3 n) n c3_18 [(.d (.str a1)), vU, vU, vU, vU, vU, vU, vU, vU, vU, vU, vU, vU, vU, vU, vU, vU, vU, vU, vU, vU, vU, vU, vU, vU, vU, vU, vU, vU, vU, vU, vU, vU, vU, vU, vU, vU, vU, vU, vU, vU, vU, vU] [] (endK [(.tmp 2 none)] 0 K) =
    S3_1 n a1 (fun (q1 : Bool) => K (.ret (.d (.bool q1))) []) := by kernel_rfl

theorem tF3 {ρ : Type} (n d : Nat) (b1 : List UInt8) (K : Out → List KB → Option ρ) :
    ck3 n (d + 8) 3 [.d (.str b1)] [] K =
    S3_1 n b1 (fun (q1 : Bool) => K (.ret (.d (.bool q1))) []) :=
  (show _ = kC (ck3 n (d + 7)) (sp3 n) n c3_18 [(.d (.str b1)), vU, vU, vU, vU, vU, vU, vU, vU, vU, vU, vU, vU, vU, vU, vU, vU, vU, vU, vU, vU, vU, vU, vU, vU, vU, vU, vU, vU, vU, vU, vU, vU, vU, vU, vU, vU, vU, vU, vU, vU, vU, vU] [] (endK [(.tmp 2 none)] 0 K) from by kernel_rfl).trans (tS3_1 n d b1 K)

def F3 (n : Nat) : Ev.Fn
  | [(.str b1)] => S3_1 n b1 (fun (q1 : Bool) => some (.bool q1))
  | _ => none

theorem p3 (n : Nat) : Pure Tryd.prog YtgkjmdbjncnlpaaDoor.GL 3 (F3 n) := by
  refine pure_k bodyOK (spok3 n) (mkSp_S _) mix (callable_of (by kernel_rfl)) n 8 ?_
  intro ds x h
  unfold F3 at h
  split at h
  · rename_i b1
    rw [← h]
    exact (tF3 n 0 b1 fin).trans (by kernel_rfl)
  · cases h

def spl5 (n : Nat) : List (FuncId × Ev.Fn) := [(9, F9 n), (10, F10 n), (12, F12 n)]

def sp5 (n : Nat) : SpecT := mkSp isS (spl5 n)

theorem spok5 (n : Nat) : SpecOK Tryd.prog YtgkjmdbjncnlpaaDoor.GL (sp5 n) := mkSp_ok callS (all_cons (p9 n) (all_cons (p10 n) (all_cons (p12 n) all_nil)))

def ck5 {ρ : Type} (n d : Nat) : CallK ρ := kF body (sp5 n) n d

def S5_2 {ρ : Type} (n : Nat) (a1 : List UInt8) (a2 : Bool) (a3 : Nat) (a4 : List D) (a5 : Bool) (a6 : List UInt8) (a7 : Int) (a8 : Int) (k0 : Bool → Option ρ) : Option ρ :=
  cond (decide (a8 < (0 : Int))) (k0 false) (cond (decide (a8 > (List.length a1 : Int))) (k0 false) (ass ((decide ((0 : Int) ≤ a8) && decide (a8 ≤ ((List.length a1) : Int)))) (ass ((fitsS ((List.take (Int.toNat a8) (List.drop 0 a1)).length + a6.length))) (ass ((decide ((0 : Int) ≤ a8) && decide (a8 ≤ ((List.length a1) : Int)))) (ass ((fitsS (((List.take (Int.toNat a8) (List.drop 0 a1)) ++ a6).length + (List.take ((List.length a1) - (Int.toNat a8)) (List.drop (Int.toNat a8) a1)).length))) ((F10 n [(.str (((List.take (Int.toNat a8) (List.drop 0 a1)) ++ a6) ++ (List.take ((List.length a1) - (Int.toNat a8)) (List.drop (Int.toNat a8) a1))))]).bind fun x1 => gT x1 fun x2 => gC x2 fun x3 x4 => gL 4 x3 fun x5 x6 x7 => gC x4 fun x8 x9 => gI .i64 x8 fun x10 => gC x9 fun x11 x12 => gI .i64 x11 fun x13 => gE x12 (cond (decide ((IntKind.i64.wrap ((List.length a1 : Int) + (List.length a6 : Int))) > (8000 : Int))) (cond a2 (cond (x10 == (2 : Int)) (k0 (x13 == (0 : Int))) (k0 false)) (k0 false)) (cond a2 (cond (x10 == (0 : Int)) (cond ((x5 : Int) == (a3 : Int)) (ass ((decide ((0 : Int) ≤ a7) && decide (a7 ≤ (a3 : Int)))) (ass ((decide ((0 : Int) ≤ a7) && decide (a7 ≤ (x5 : Int)))) ((F12 n [(.lst 4 (Int.toNat a7) (List.take ((Int.toNat a7) * 4) a4) (a5 && ((Int.toNat a7) == a3))), (.lst 4 (Int.toNat a7) (List.take ((Int.toNat a7) * 4) x6) (x7 && ((Int.toNat a7) == x5))), (.int .i64 (0))]).bind fun x14 => gB x14 fun x15 => cond x15 (ass ((decide ((0 : Int) ≤ a7) && decide (a7 ≤ (a3 : Int)))) (ass ((decide ((0 : Int) ≤ a7) && decide (a7 ≤ (x5 : Int)))) ((F12 n [(.lst 4 (a3 - (Int.toNat a7)) (List.take ((a3 - (Int.toNat a7)) * 4) (List.drop ((Int.toNat a7) * 4) a4)) (a5 && (a3 == a3))), (.lst 4 (x5 - (Int.toNat a7)) (List.take ((x5 - (Int.toNat a7)) * 4) (List.drop ((Int.toNat a7) * 4) x6)) (x7 && (x5 == x5))), (.int .i64 (List.length a6 : Int))]).bind fun x16 => gB x16 fun x17 => k0 x17))) (k0 false)))) (k0 false)) (k0 false)) (k0 false)))))))))

theorem tS5_2 {ρ : Type} (n d : Nat) (a1 : List UInt8) (a2 : Bool) (a3 : Nat) (a4 : List D) (a5 : Bool) (a6 : List UInt8) (a7 : Int) (a8 : Int) (K : Out → List KB → Option ρ) :
    kC (ck5 n (d + 7)) (sp5 n) n c5_45 [(.d (.str a1)), vN, vN, vN, vN, vN, vN, (.d (.bool a2)), (.d (.lst 4 a3 a4 a5)), vN, vN, vN, (.d (.str a6)), (.d (.int .i64 a7)), (.d (.int .i64 a8)), vN, vN, vN, vN, vN, vN, vN, vN, vN, vN, vN, vN, vN, vN, vN, vN, vN, vN, vN, vN, vN, vN, vN, vN, vN, vN, vN, vN, vN, vN, vN, vN, vN, vN, vN, vN, vN, vN, vN, vN, vN, vN, vN, vN, vN, vN, vN, vN, vN, vN, vN, vN, vN, vN, vN, vN, vN, vN, vN, vN, vN, vN, vN, vN, vN, vN, vN, vN, vN, vN, vN, vN, vN, vN, vN, vN, vN, vN, vN, vN, vN, vN, vN, vN, vN, vN, vN, vN, vN, vN, vN, vN, vN, vN, vN, vN, vN, vN, vN, vN, vN, vN, vN, vN, vN, vN, vN, vN, vN, vN, vN, vN] [] (endK [(.tmp 6 none)] 0 K) =
    S5_2 n a1 a2 a3 a4 a5 a6 a7 a8 (fun (q1 : Bool) => K (.ret (.d (.bool q1))) []) := by kernel_rfl

def S5_1 {ρ : Type} (n : Nat) (a1 : List UInt8) (a2 : Int) (a3 : Int) (k0 : Bool → Option ρ) : Option ρ :=
  (F9 n []).bind fun x1 => gB x1 fun x2 => cond (decide ((List.length a1 : Int) > (8000 : Int))) (k0 x2) ((F10 n [(.str a1)]).bind fun x3 => gT x3 fun x4 => gC x4 fun x5 x6 => gL 4 x5 fun x7 x8 x9 => gC x6 fun x10 x11 => gI .i64 x10 fun x12 => gC x11 fun x13 x14 => gI .i64 x13 fun x15 => gE x14 (cond (x12 != (0 : Int)) (k0 x2) (ass ((decide ((0 : Int) ≤ (Int.tmod (IntKind.i64.wrap a3) (5 : Int))) && decide ((Int.tmod (IntKind.i64.wrap a3) (5 : Int)) < (5 : Int)))) (gC (List.drop (Int.toNat (Int.tmod (IntKind.i64.wrap a3) (5 : Int)) * 1) [(.str [32]), (.str [9, 9]), (.str [10]), (.str [32, 35, 32, 97, 32, 55, 59, 10]), (.str [35, 10, 10])]) fun x16 x17 => gS x16 fun x18 => ass ((!((IntKind.i64.wrap ((x7 : Int) + (1 : Int))) == (0 : Int)))) (cond (decide ((Int.tmod (IntKind.i64.wrap a2) (IntKind.i64.wrap ((x7 : Int) + (1 : Int)))) < (x7 : Int))) (ass ((decide ((0 : Int) ≤ (Int.tmod (IntKind.i64.wrap a2) (IntKind.i64.wrap ((x7 : Int) + (1 : Int))))) && decide ((Int.tmod (IntKind.i64.wrap a2) (IntKind.i64.wrap ((x7 : Int) + (1 : Int)))) < (x7 : Int)))) (gC (List.drop 3 (List.drop (Int.toNat (Int.tmod (IntKind.i64.wrap a2) (IntKind.i64.wrap ((x7 : Int) + (1 : Int)))) * 4) x8)) fun x19 x20 => gI .i64 x19 fun x21 => S5_2 n a1 x2 x7 x8 x9 x18 (Int.tmod (IntKind.i64.wrap a2) (IntKind.i64.wrap ((x7 : Int) + (1 : Int)))) x21 (fun x22 => k0 x22))) (S5_2 n a1 x2 x7 x8 x9 x18 (Int.tmod (IntKind.i64.wrap a2) (IntKind.i64.wrap ((x7 : Int) + (1 : Int)))) (List.length a1 : Int) (fun x23 => k0 x23)))))))

theorem hS5_1 {ρ : Type} (X1 : KC) (n d : Nat) (a1 : List UInt8) (a2 : Int) (a3 : Int) (K : Out → List KB → Option ρ) :
    kC (ck5 n (d + 7)) (sp5 n) n (.seq c5_0 (.seq c5_1 (.seq c5_8 (.seq c5_9 (.seq c5_16 (.seq c5_17 (.seq c5_18 (.seq c5_19 (.seq (.tidy ti5_46 [] c5_24) X1))))))))) [(.d (.str a1)), (.d (.int .u16 a2)), (.d (.int .u8 a3)), vU, vU, vU, vU, vU, vU, vU, vU, vU, vU, vU, vU, vU, vU, vU, vU, vU, vU, vU, vU, vU, vU, vU, vU, vU, vU, vU, vU, vU, vU, vU, vU, vU, vU, vU, vU, vU, vU, vU, vU, vU, vU, vU, vU, vU, vU, vU, vU, vU, vU, vU, vU, vU, vU, vU, vU, vU, vU, vU, vU, vU, vU, vU, vU, vU, vU, vU, vU, vU, vU, vU, vU, vU, vU, vU, vU, vU, vU, vU, vU, vU, vU, vU, vU, vU, vU, vU, vU, vU, vU, vU, vU, vU, vU, vU, vU, vU, vU, vU, vU, vU, vU, vU, vU, vU, vU, vU, vU, vU, vU, vU, vU, vU, vU, vU, vU, vU, vU, vU, vU, vU, vU, vU, vU] [] (endK [(.tmp 6 none)] 0 K) =
    (F9 n []).bind fun x1 => gB x1 fun x2 => cond (decide ((List.length a1 : Int) > (8000 : Int))) (K (.ret (.d (.bool x2))) []) ((F10 n [(.str a1)]).bind fun x3 => gT x3 fun x4 => gC x4 fun x5 x6 => gL 4 x5 fun x7 x8 x9 => gC x6 fun x10 x11 => gI .i64 x10 fun x12 => gC x11 fun x13 x14 => gI .i64 x13 fun x15 => gE x14 (cond (x12 != (0 : Int)) (K (.ret (.d (.bool x2))) []) (ass ((decide ((0 : Int) ≤ (Int.tmod (IntKind.i64.wrap a3) (5 : Int))) && decide ((Int.tmod (IntKind.i64.wrap a3) (5 : Int)) < (5 : Int)))) (gC (List.drop (Int.toNat (Int.tmod (IntKind.i64.wrap a3) (5 : Int)) * 1) [(.str [32]), (.str [9, 9]), (.str [10]), (.str [32, 35, 32, 97, 32, 55, 59, 10]), (.str [35, 10, 10])]) fun x16 x17 => gS x16 fun x18 => ass ((!((IntKind.i64.wrap ((x7 : Int) + (1 : Int))) == (0 : Int)))) (cond (decide ((Int.tmod (IntKind.i64.wrap a2) (IntKind.i64.wrap ((x7 : Int) + (1 : Int)))) < (x7 : Int))) (ass ((decide ((0 : Int) ≤ (Int.tmod (IntKind.i64.wrap a2) (IntKind.i64.wrap ((x7 : Int) + (1 : Int))))) && decide ((Int.tmod (IntKind.i64.wrap a2) (IntKind.i64.wrap ((x7 : Int) + (1 : Int)))) < (x7 : Int)))) (gC (List.drop 3 (List.drop (Int.toNat (Int.tmod (IntKind.i64.wrap a2) (IntKind.i64.wrap ((x7 : Int) + (1 : Int)))) * 4) x8)) fun x19 x20 => gI .i64 x19 fun x21 => kC (ck5 n (d + 7)) (sp5 n) n X1 [(.d (.str a1)), vN, vN, vN, vN, vN, vN, (.d (.bool x2)), (.d (.lst 4 x7 x8 x9)), vN, vN, vN, (.d (.str x18)), (.d (.int .i64 (Int.tmod (IntKind.i64.wrap a2) (IntKind.i64.wrap ((x7 : Int) + (1 : Int)))))), (.d (.int .i64 x21)), vN, vN, vN, vN, vN, vN, vN, vN, vN, vN, vN, vN, vN, vN, vN, vN, vN, vN, vN, vN, vN, vN, vN, vN, vN, vN, vN, vN, vN, vN, vN, vN, vN, vN, vN, vN, vN, vN, vN, vN, vN, vN, vN, vN, vN, vN, vN, vN, vN, vN, vN, vN, vN, vN, vN, vN, vN, vN, vN, vN, vN, vN, vN, vN, vN, vN, vN, vN, vN, vN, vN, vN, vN, vN, vN, vN, vN, vN, vN, vN, vN, vN, vN, vN, vN, vN, vN, vN, vN, vN, vN, vN, vN, vN, vN, vN, vN, vN, vN, vN, vN, vN, vN, vN, vN, vN, vN, vN, vN, vN, vN, vN] [] (endK [(.tmp 6 none)] 0 K))) (kC (ck5 n (d + 7)) (sp5 n) n X1 [(.d (.str a1)), vN, vN, vN, vN, vN, vN, (.d (.bool x2)), (.d (.lst 4 x7 x8 x9)), vN, vN, vN, (.d (.str x18)), (.d (.int .i64 (Int.tmod (IntKind.i64.wrap a2) (IntKind.i64.wrap ((x7 : Int) + (1 : Int)))))), (.d (.int .i64 (List.length a1 : Int))), vN, vN, vN, vN, vN, vN, vN, vN, vN, vN, vN, vN, vN, vN, vN, vN, vN, vN, vN, vN, vN, vN, vN, vN, vN, vN, vN, vN, vN, vN, vN, vN, vN, vN, vN, vN, vN, vN, vN, vN, vN, vN, vN, vN, vN, vN, vN, vN, vN, vN, vN, vN, vN, vN, vN, vN, vN, vN, vN, vN, vN, vN, vN, vN, vN, vN, vN, vN, vN, vN, vN, vN, vN, vN, vN, vN, vN, vN, vN, vN, vN, vN, vN, vN, vN, vN, vN, vN, vN, vN, vN, vN, vN, vN, vN, vN, vN, vN, vN, vN, vN, vN, vN, vN, vN, vN, vN, vN, vN, vN, vN, vN] [] (endK [(.tmp 6 none)] 0 K))))))) := by kernel_rfl

theorem tS5_1 {ρ : Type} (n d : Nat) (a1 : List UInt8) (a2 : Int) (a3 : Int) (K : Out → List KB → Option ρ) :
    kC (ck5 n (d + 7)) (sp5 n) n c5_54 [(.d (.str a1)), (.d (.int .u16 a2)), (.d (.int .u8 a3)), vU, vU, vU, vU, vU, vU, vU, vU, vU, vU, vU, vU, vU, vU, vU, vU, vU, vU, vU, vU, vU, vU, vU, vU, vU, vU, vU, vU, vU, vU, vU, vU, vU, vU, vU, vU, vU, vU, vU, vU, vU, vU, vU, vU, vU, vU, vU, vU, vU, vU, vU, vU, vU, vU, vU, vU, vU, vU, vU, vU, vU, vU, vU, vU, vU, vU, vU, vU, vU, vU, vU, vU, vU, vU, vU, vU, vU, vU, vU, vU, vU, vU, vU, vU, vU, vU, vU, vU, vU, vU, vU, vU, vU, vU, vU, vU, vU, vU, vU, vU, vU, vU, vU, vU, vU, vU, vU, vU, vU, vU, vU, vU, vU, vU, vU, vU, vU, vU, vU, vU, vU, vU, vU, vU] [] (endK [(.tmp 6 none)] 0 K) =
    S5_1 n a1 a2 a3 (fun (q1 : Bool) => K (.ret (.d (.bool q1))) []) :=
  (hS5_1 c5_45 n d a1 a2 a3 K).trans (by simp only [tS5_2]; kernel_rfl)

theorem tF5 {ρ : Type} (n d : Nat) (b1 : List UInt8) (b2 : Int) (b3 : Int) (K : Out → List KB → Option ρ) :
    ck5 n (d + 8) 5 [.d (.str b1), .d (.int .u16 b2), .d (.int .u8 b3)] [] K =
    S5_1 n b1 b2 b3 (fun (q1 : Bool) => K (.ret (.d (.bool q1))) []) :=
  (show _ = kC (ck5 n (d + 7)) (sp5 n) n c5_54 [(.d (.str b1)), (.d (.int .u16 b2)), (.d (.int .u8 b3)), vU, vU, vU, vU, vU, vU, vU, vU, vU, vU, vU, vU, vU, vU, vU, vU, vU, vU, vU, vU, vU, vU, vU, vU, vU, vU, vU, vU, vU, vU, vU, vU, vU, vU, vU, vU, vU, vU, vU, vU, vU, vU, vU, vU, vU, vU, vU, vU, vU, vU, vU, vU, vU, vU, vU, vU, vU, vU, vU, vU, vU, vU, vU, vU, vU, vU, vU, vU, vU, vU, vU, vU, vU, vU, vU, vU, vU, vU, vU, vU, vU, vU, vU, vU, vU, vU, vU, vU, vU, vU, vU, vU, vU, vU, vU, vU, vU, vU, vU, vU, vU, vU, vU, vU, vU, vU, vU, vU, vU, vU, vU, vU, vU, vU, vU, vU, vU, vU, vU, vU, vU, vU, vU, vU] [] (endK [(.tmp 6 none)] 0 K) from by kernel_rfl).trans (tS5_1 n d b1 b2 b3 K)

def F5 (n : Nat) : Ev.Fn
  | [(.str b1), (.int .u16 b2), (.int .u8 b3)] => S5_1 n b1 b2 b3 (fun (q1 : Bool) => some (.bool q1))
  | _ => none

theorem p5 (n : Nat) : Pure Tryd.prog YtgkjmdbjncnlpaaDoor.GL 5 (F5 n) := by
  refine pure_k bodyOK (spok5 n) (mkSp_S _) mix (callable_of (by kernel_rfl)) n 8 ?_
  intro ds x h
  unfold F5 at h
  split at h
  · rename_i b1 b2 b3
    rw [← h]
    exact (tF5 n 0 b1 b2 b3 fin).trans (by kernel_rfl)
  · cases h

def spl6 (n : Nat) : List (FuncId × Ev.Fn) := [(9, F9 n), (10, F10 n), (12, F12 n)]

def sp6 (n : Nat) : SpecT := mkSp isS (spl6 n)

theorem spok6 (n : Nat) : SpecOK Tryd.prog YtgkjmdbjncnlpaaDoor.GL (sp6 n) := mkSp_ok callS (all_cons (p9 n) (all_cons (p10 n) (all_cons (p12 n) all_nil)))

def ck6 {ρ : Type} (n d : Nat) : CallK ρ := kF body (sp6 n) n d

def S6_1 {ρ : Type} (n : Nat) (a1 : List UInt8) (a2 : List UInt8) (k0 : Bool → Option ρ) : Option ρ :=
  (F9 n []).bind fun x1 => gB x1 fun x2 => cond (decide ((List.length a1 : Int) > (8000 : Int))) (k0 x2) (cond (decide ((List.length a2 : Int) > (8000 : Int))) (k0 x2) ((F10 n [(.str a1)]).bind fun x3 => gT x3 fun x4 => gC x4 fun x5 x6 => gL 4 x5 fun x7 x8 x9 => gC x6 fun x10 x11 => gI .i64 x10 fun x12 => gC x11 fun x13 x14 => gI .i64 x13 fun x15 => gE x14 ((F10 n [(.str a2)]).bind fun x16 => gT x16 fun x17 => gC x17 fun x18 x19 => gL 4 x18 fun x20 x21 x22 => gC x19 fun x23 x24 => gI .i64 x23 fun x25 => gC x24 fun x26 x27 => gI .i64 x26 fun x28 => gE x27 (cond (x12 != (0 : Int)) (k0 x2) (cond (x25 != (0 : Int)) (k0 x2) (ass ((fitsS (a1.length + ([10] : List UInt8).length))) (ass ((fitsS ((a1 ++ ([10] : List UInt8)).length + a2.length))) ((F10 n [(.str ((a1 ++ ([10] : List UInt8)) ++ a2))]).bind fun x29 => gT x29 fun x30 => gC x30 fun x31 x32 => gL 4 x31 fun x33 x34 x35 => gC x32 fun x36 x37 => gI .i64 x36 fun x38 => gC x37 fun x39 x40 => gI .i64 x39 fun x41 => gE x40 (cond (decide ((IntKind.i64.wrap ((IntKind.i64.wrap ((List.length a1 : Int) + (List.length a2 : Int))) + (1 : Int))) > (8000 : Int))) (cond x2 (cond (x38 == (2 : Int)) (k0 (x41 == (0 : Int))) (k0 false)) (k0 false)) (cond (decide ((IntKind.i64.wrap ((x7 : Int) + (x20 : Int))) > (2000 : Int))) (cond x2 (cond (x38 == (2 : Int)) (k0 (decide (x41 > (List.length a1 : Int)))) (k0 false)) (k0 false)) (cond x2 (cond (x38 == (0 : Int)) (cond ((x33 : Int) == (IntKind.i64.wrap ((x7 : Int) + (x20 : Int)))) (ass ((decide ((0 : Int) ≤ (x7 : Int)) && decide ((x7 : Int) ≤ (x33 : Int)))) ((F12 n [(.lst 4 x7 x8 x9), (.lst 4 (Int.toNat (x7 : Int)) (List.take ((Int.toNat (x7 : Int)) * 4) x34) (x35 && ((Int.toNat (x7 : Int)) == x33))), (.int .i64 (0))]).bind fun x42 => gB x42 fun x43 => cond x43 (ass ((decide ((0 : Int) ≤ (x7 : Int)) && decide ((x7 : Int) ≤ (x33 : Int)))) ((F12 n [(.lst 4 x20 x21 x22), (.lst 4 (x33 - (Int.toNat (x7 : Int))) (List.take ((x33 - (Int.toNat (x7 : Int))) * 4) (List.drop ((Int.toNat (x7 : Int)) * 4) x34)) (x35 && (x33 == x33))), (.int .i64 (IntKind.i64.wrap ((List.length a1 : Int) + (1 : Int))))]).bind fun x44 => gB x44 fun x45 => k0 x45)) (k0 false))) (k0 false)) (k0 false)) (k0 false))))))))))))

theorem tS6_1 {ρ : Type} (n d : Nat) (a1 : List UInt8) (a2 : List UInt8) (K : Out → List KB → Option ρ) :
    kC (ck6 n (d + 7)) (sp6 n) n c6_44 [(.d (.str a1)), (.d (.str a2)), vU, vU, vU, vU, vU, vU, vU, vU, vU, vU, vU, vU, vU, vU, vU, vU, vU, vU, vU, vU, vU, vU, vU, vU, vU, vU, vU, vU, vU, vU, vU, vU, vU, vU, vU, vU, vU, vU, vU, vU, vU, vU, vU, vU, vU, vU, vU, vU, vU, vU, vU, vU, vU, vU, vU, vU, vU, vU, vU, vU, vU, vU, vU, vU, vU, vU, vU, vU, vU, vU, vU, vU, vU, vU, vU, vU, vU, vU, vU, vU, vU, vU, vU, vU, vU, vU, vU, vU, vU, vU, vU, vU, vU, vU, vU, vU, vU, vU, vU, vU, vU, vU, vU, vU, vU, vU, vU, vU, vU, vU, vU, vU, vU, vU, vU, vU, vU, vU] [] (endK [(.tmp 4 none)] 0 K) =
    S6_1 n a1 a2 (fun (q1 : Bool) => K (.ret (.d (.bool q1))) []) := by kernel_rfl

theorem tF6 {ρ : Type} (n d : Nat) (b1 : List UInt8) (b2 : List UInt8) (K : Out → List KB → Option ρ) :
    ck6 n (d + 8) 6 [.d (.str b1), .d (.str b2)] [] K =
    S6_1 n b1 b2 (fun (q1 : Bool) => K (.ret (.d (.bool q1))) []) :=
  (show _ = kC (ck6 n (d + 7)) (sp6 n) n c6_44 [(.d (.str b1)), (.d (.str b2)), vU, vU, vU, vU, vU, vU, vU, vU, vU, vU, vU, vU, vU, vU, vU, vU, vU, vU, vU, vU, vU, vU, vU, vU, vU, vU, vU, vU, vU, vU, vU, vU, vU, vU, vU, vU, vU, vU, vU, vU, vU, vU, vU, vU, vU, vU, vU, vU, vU, vU, vU, vU, vU, vU, vU, vU, vU, vU, vU, vU, vU, vU, vU, vU, vU, vU, vU, vU, vU, vU, vU, vU, vU, vU, vU, vU, vU, vU, vU, vU, vU, vU, vU, vU, vU, vU, vU, vU, vU, vU, vU, vU, vU, vU, vU, vU, vU, vU, vU, vU, vU, vU, vU, vU, vU, vU, vU, vU, vU, vU, vU, vU, vU, vU, vU, vU, vU, vU] [] (endK [(.tmp 4 none)] 0 K) from by kernel_rfl).trans (tS6_1 n d b1 b2 K)

def F6 (n : Nat) : Ev.Fn
  | [(.str b1), (.str b2)] => S6_1 n b1 b2 (fun (q1 : Bool) => some (.bool q1))
  | _ => none

theorem p6 (n : Nat) : Pure Tryd.prog YtgkjmdbjncnlpaaDoor.GL 6 (F6 n) := by
  refine pure_k bodyOK (spok6 n) (mkSp_S _) mix (callable_of (by kernel_rfl)) n 8 ?_
  intro ds x h
  unfold F6 at h
  split at h
  · rename_i b1 b2
    rw [← h]
    exact (tF6 n 0 b1 b2 fin).trans (by kernel_rfl)
  · cases h

def spl8 (n : Nat) : List (FuncId × Ev.Fn) := [(9, F9 n), (10, F10 n), (16, F16 n), (17, F17 n)]

def sp8 (n : Nat) : SpecT := mkSp isS (spl8 n)

theorem spok8 (n : Nat) : SpecOK Tryd.prog YtgkjmdbjncnlpaaDoor.GL (sp8 n) := mkSp_ok callS (all_cons (p9 n) (all_cons (p10 n) (all_cons (p16 n) (all_cons (p17 n) all_nil))))

def ck8 {ρ : Type} (n d : Nat) : CallK ρ := kF body (sp8 n) n d

def S8_1 {ρ : Type} (n : Nat) (a1 : List UInt8) (a2 : List UInt8) (k0 : Bool → Option ρ) : Option ρ :=
  (F9 n []).bind fun x1 => gB x1 fun x2 => cond (decide ((List.length a1 : Int) > (8000 : Int))) (k0 x2) (cond (decide ((List.length a2 : Int) > (8000 : Int))) (k0 x2) ((F10 n [(.str a1)]).bind fun x3 => gT x3 fun x4 => gC x4 fun x5 x6 => gL 4 x5 fun x7 x8 x9 => gC x6 fun x10 x11 => gI .i64 x10 fun x12 => gC x11 fun x13 x14 => gI .i64 x13 fun x15 => gE x14 (cond (x12 == (0 : Int)) (cond x2 (k0 (x15 == (0 : Int))) (k0 false)) (cond (decide (x15 < (0 : Int))) (k0 false) (cond (decide (x15 ≥ (List.length a1 : Int))) (k0 false) (ass ((decide ((0 : Int) ≤ x15) && decide (x15 ≤ ((List.length a1) : Int)))) ((F10 n [(.str (List.take (Int.toNat x15) (List.drop 0 a1)))]).bind fun x16 => gT x16 fun x17 => gC x17 fun x18 x19 => gL 4 x18 fun x20 x21 x22 => gC x19 fun x23 x24 => gI .i64 x23 fun x25 => gC x24 fun x26 x27 => gI .i64 x26 fun x28 => gE x27 ((F16 n [(.str a1), (.int .i64 x15)]).bind fun x29 => gI .i64 x29 fun x30 => ass ((decide ((0 : Int) ≤ (if x30 > (IntKind.i64.wrap (x15 + (1 : Int))) then x30 else (IntKind.i64.wrap (x15 + (1 : Int))))) && decide ((if x30 > (IntKind.i64.wrap (x15 + (1 : Int))) then x30 else (IntKind.i64.wrap (x15 + (1 : Int)))) ≤ ((List.length a1) : Int)))) (ass ((fitsS ((List.take (Int.toNat (if x30 > (IntKind.i64.wrap (x15 + (1 : Int))) then x30 else (IntKind.i64.wrap (x15 + (1 : Int))))) (List.drop 0 a1)).length + ([32] : List UInt8).length))) (ass ((fitsS (((List.take (Int.toNat (if x30 > (IntKind.i64.wrap (x15 + (1 : Int))) then x30 else (IntKind.i64.wrap (x15 + (1 : Int))))) (List.drop 0 a1)) ++ ([32] : List UInt8)).length + a2.length))) (cond (x25 != (0 : Int)) (k0 false) (cond (x12 == (2 : Int)) (cond ((x20 : Int) != (2000 : Int)) (k0 false) (cond x2 (cond (decide ((List.length (((List.take (Int.toNat (if x30 > (IntKind.i64.wrap (x15 + (1 : Int))) then x30 else (IntKind.i64.wrap (x15 + (1 : Int))))) (List.drop 0 a1)) ++ ([32] : List UInt8)) ++ a2) : Int) > (8000 : Int))) (k0 true) ((F17 n [(.str (((List.take (Int.toNat (if x30 > (IntKind.i64.wrap (x15 + (1 : Int))) then x30 else (IntKind.i64.wrap (x15 + (1 : Int))))) (List.drop 0 a1)) ++ ([32] : List UInt8)) ++ a2)), (.int .i64 x12), (.int .i64 x15)]).bind fun x31 => gB x31 fun x32 => k0 x32)) (k0 false))) (cond x2 (cond (decide ((List.length (((List.take (Int.toNat (if x30 > (IntKind.i64.wrap (x15 + (1 : Int))) then x30 else (IntKind.i64.wrap (x15 + (1 : Int))))) (List.drop 0 a1)) ++ ([32] : List UInt8)) ++ a2) : Int) > (8000 : Int))) (k0 true) ((F17 n [(.str (((List.take (Int.toNat (if x30 > (IntKind.i64.wrap (x15 + (1 : Int))) then x30 else (IntKind.i64.wrap (x15 + (1 : Int))))) (List.drop 0 a1)) ++ ([32] : List UInt8)) ++ a2)), (.int .i64 x12), (.int .i64 x15)]).bind fun x33 => gB x33 fun x34 => k0 x34)) (k0 false))))))))))))))

theorem tS8_1 {ρ : Type} (n d : Nat) (a1 : List UInt8) (a2 : List UInt8) (K : Out → List KB → Option ρ) :
    kC (ck8 n (d + 7)) (sp8 n) n c8_46 [(.d (.str a1)), (.d (.str a2)), vU, vU, vU, vU, vU, vU, vU, vU, vU, vU, vU, vU, vU, vU, vU, vU, vU, vU, vU, vU, vU, vU, vU, vU, vU, vU, vU, vU, vU, vU, vU, vU, vU, vU, vU, vU, vU, vU, vU, vU, vU, vU, vU, vU, vU, vU, vU, vU, vU, vU, vU, vU, vU, vU, vU, vU, vU, vU, vU, vU, vU, vU, vU, vU, vU, vU, vU, vU, vU, vU, vU, vU, vU, vU, vU, vU, vU, vU, vU, vU, vU, vU, vU, vU, vU, vU] [] (endK [(.tmp 4 none)] 0 K) =
    S8_1 n a1 a2 (fun (q1 : Bool) => K (.ret (.d (.bool q1))) []) := by kernel_rfl

theorem tF8 {ρ : Type} (n d : Nat) (b1 : List UInt8) (b2 : List UInt8) (K : Out → List KB → Option ρ) :
    ck8 n (d + 8) 8 [.d (.str b1), .d (.str b2)] [] K =
    S8_1 n b1 b2 (fun (q1 : Bool) => K (.ret (.d (.bool q1))) []) :=
  (show _ = kC (ck8 n (d + 7)) (sp8 n) n c8_46 [(.d (.str b1)), (.d (.str b2)), vU, vU, vU, vU, vU, vU, vU, vU, vU, vU, vU, vU, vU, vU, vU, vU, vU, vU, vU, vU, vU, vU, vU, vU, vU, vU, vU, vU, vU, vU, vU, vU, vU, vU, vU, vU, vU, vU, vU, vU, vU, vU, vU, vU, vU, vU, vU, vU, vU, vU, vU, vU, vU, vU, vU, vU, vU, vU, vU, vU, vU, vU, vU, vU, vU, vU, vU, vU, vU, vU, vU, vU, vU, vU, vU, vU, vU, vU, vU, vU, vU, vU, vU, vU, vU, vU] [] (endK [(.tmp 4 none)] 0 K) from by kernel_rfl).trans (tS8_1 n d b1 b2 K)

def F8 (n : Nat) : Ev.Fn
  | [(.str b1), (.str b2)] => S8_1 n b1 b2 (fun (q1 : Bool) => some (.bool q1))
  | _ => none

theorem p8 (n : Nat) : Pure Tryd.prog YtgkjmdbjncnlpaaDoor.GL 8 (F8 n) := by
  refine pure_k bodyOK (spok8 n) (mkSp_S _) mix (callable_of (by kernel_rfl)) n 8 ?_
  intro ds x h
  unfold F8 at h
  split at h
  · rename_i b1 b2
    rw [← h]
    exact (tF8 n 0 b1 b2 fin).trans (by kernel_rfl)
  · cases h

end Go.Proofs.YtgkjmdbjncnlpaaDoor
