/- What each operation of the machine does, in the abstract operations' words: slices, arithmetic, lists that grow. -/
import Derived.Test.YtgkjmdbjncnlpaaDoorEvH
import Derived.Laws.Strings2
import Derived.Laws.StructEq
namespace Go.Ev
set_option linter.unusedVariables false
set_option linter.unusedSimpArgs false

section
variable {P : Program} {μ : Mu} {S : Stab} {h : List Blk} {w : World}

theorem run_slice_slice {t el : TypeId} {sz : Nat} (hu : P.underlying t = some (.slice el)) (hs : szT P el = some sz) {a : Option Addr} {len cap l u m : Nat} {lo hi mx : Option Value}
    (hb : (Instr.sliceBounds true len cap lo hi mx).run P w = .ok (l, u, m) w) :
    (Instr.sliceAt t (.slice a len cap) lo hi mx).run P w = .ok (.slice (if m = l then a else a.map (·.add (l * sz))) (u - l) (m - l)) w := by
  simp only [Instr.sliceAt, Sem.run_bind, run_underlying hu, Result.andThen_ok, Instr.slice, hb, run_sizeOf hs, Sem.run_pure]

theorem bnds_le {len cap : Nat} {lo hi mx : Option Int} {l u m : Nat} (hb : bnds len cap lo hi mx = some (l, u, m)) : m ≤ cap := by
  unfold bnds at hb
  split at hb
  · cases hb
  · rename_i m0 hm0
    have hm : m0 ≤ cap := by
      cases mx with
      | none => simp [bnd] at hm0; omega
      | some x => exact (bnd_some hm0).2.2.2
    split at hb
    · cases hb
    · split at hb
      · cases hb
      · injection hb with hb; injection hb with hb1 hb2; injection hb2 with hb2 hb3; omega

theorem ok_slLst {t el : TypeId} {sz n cap : Nat} {base : Option Addr} {cells : List D} {ex : Bool} {lo hi mx : Option Int} {kl kh km : IntKind} {v : V} (hu : P.underlying t = some (.slice el)) (hs : szT P el = some sz)
    (e : slLst sz n cells ex lo hi mx = some v) (hn : n ≤ cap) (hex : ex = true → cap = n) (hl : cells.length = n * sz)
    (hat : (base = none ∧ cap = 0) ∨ ∃ b o sp, base = some ⟨b, o, sp⟩ ∧ D.relAt S cells b o ∧ (0 < cap → sp = none)) :
    ∃ y, (Instr.sliceAt t (.slice base n cap) (lo.map (.int kl)) (hi.map (.int kh)) (mx.map (.int km))).run P w = .ok y w ∧ V.rel μ S h v y := by
  unfold slLst at e
  split at e
  · cases e
  · rename_i l u m hb
    injection e with e; subst e
    obtain ⟨m', h1, h2, h3, h4, h5, h6, h7⟩ := ok_bnds (P := P) (w := w) (isS := true) (kl := kl) (kh := kh) (km := km) hb hn
    refine ⟨_, run_slice_slice hu hs h1, ?_⟩
    have hum : u ≤ n := by
      by_cases q : mx = none
      · have := (h6 q).2; omega
      · unfold bnds at hb
        cases mx with
        | none => exact absurd rfl q
        | some x =>
          split at hb
          · cases hb
          · rename_i m0 hm0
            have := (bnd_some hm0).2.2.2
            split at hb
            · cases hb
            · split at hb
              · cases hb
              · injection hb with hb; injection hb with hb1 hb2; injection hb2 with hb2 hb3; omega
    have hexit : (if mx.isSome then m == u else ex && u == n) = true → m' - l = u - l := by
      intro q
      cases hmx : mx with
      | none =>
        simp [hmx] at q
        obtain ⟨q1, q2⟩ := q
        have := hex q1; have := (h6 hmx).1; omega
      | some x =>
        simp [hmx] at q
        have := h5 (by simp [hmx]); omega
    have hlen : ((cells.drop (l * sz)).take ((u - l) * sz)).length = (u - l) * sz := by
      simp only [List.length_take, List.length_drop, hl]
      have : u * sz ≤ n * sz := Nat.mul_le_mul_right _ hum
      rw [Nat.sub_mul]
      have : l * sz ≤ u * sz := Nat.mul_le_mul_right _ h2
      omega
    have hmc : m' ≤ cap := by
      by_cases q' : mx = none
      · exact Nat.le_of_eq (h6 q').1
      · have := bnds_le hb; have := h5 q'; omega
    by_cases q : m' = l
    · rw [if_pos q]
      have hlu : u = l := by omega
      subst hlu
      have hz : m' - u = 0 := by omega
      rw [hz]
      exact lst_zero rfl (by omega) hlen
    · rw [if_neg q]
      rcases hat with ⟨_, h0⟩ | ⟨b, o, sp, rfl, hat, hsp⟩
      · omega
      obtain rfl := hsp (by omega)
      exact ⟨_, m' - l, rfl, by omega, hexit, hlen, .inr ⟨b, o + l * sz, none, by simp [Addr.add_plain], D.relAt_take _ (D.relAt_drop _ hat), fun _ => rfl⟩⟩

theorem ok_slV {t el : TypeId} {sz : Nat} {a v : V} {x : Value} {lo hi mx : Option Int} {kl kh km : IntKind} (hu : P.underlying t = some (.slice el)) (hs : szT P el = some sz)
    (e : slV sz lo hi mx a = some v) (r : V.rel μ S h a x) :
    ∃ y, (Instr.sliceAt t x (lo.map (.int kl)) (hi.map (.int kh)) (mx.map (.int km))).run P w = .ok y w ∧ V.rel μ S h v y := by
  unfold slV at e
  split at e
  · split at e
    · rename_i hsz
      obtain ⟨base, cap, rfl, h1, h2, h3, h4⟩ := r
      subst hsz
      exact ok_slLst hu hs e h1 h2 h3 h4
    · cases e
  · split at e
    · rename_i hsz
      obtain ⟨_, base, cap, rfl, h1, h2, h3⟩ := r
      subst hsz
      obtain ⟨base', cap', e', g1, g2, g3, g4⟩ := gs_lst (S := S) (Q := fun b => _) rfl h1 h2 h3
      injection e' with e1 e2 e3; subst e1; subst e3
      exact ok_slLst hu hs e g1 g2 g3 g4
    · cases e
  · split at e
    · cases e
    · rename_i p hb
      injection e with e; subst e
      rw [show x = _ from r]
      obtain ⟨l, u, m⟩ := p
      obtain ⟨m', h1, h2, h3, h4, h5, h6, h7⟩ := ok_bnds (P := P) (w := w) (isS := true) (kl := kl) (kh := kh) (km := km) hb (Nat.le_refl 0)
      have hm0 : m = 0 := by
        by_cases q : mx = none
        · exact (h6 q).2
        · unfold bnds at hb
          cases mx with
          | none => exact absurd rfl q
          | some x =>
            split at hb
            · cases hb
            · rename_i m0 hm0
              have := (bnd_some hm0).2.2.2
              split at hb
              · cases hb
              · split at hb
                · cases hb
                · injection hb with hb; injection hb with hb1 hb2; injection hb2 with hb2 hb3; omega
      have hm' : m' = 0 := by
        by_cases q : mx = none
        · exact (h6 q).1
        · rw [h5 q]; exact hm0
      refine ⟨_, run_slice_slice hu hs h1, ?_⟩
      have : l = 0 := by omega
      have : u = 0 := by omega
      subst_vars
      simp [V.rel, D.rel]
  · split at e
    · rename_i hsz
      subst hsz
      split at e
      · cases e
      · rename_i l u m hb
        injection e with e; subst e
        obtain ⟨h1, h2, h3, rfl⟩ := r
        obtain ⟨m', g1, g2, g3, g4, g5, g6, g7⟩ := ok_bnds (P := P) (w := w) (isS := true) (kl := kl) (kh := kh) (km := km) hb (Nat.le_refl _)
        have hm : m' = m := by
          by_cases q : mx = none
          · have := g6 q; omega
          · exact g5 q
        subst hm
        refine ⟨_, run_slice_slice hu hs g1, h1, h2, by omega, ?_⟩
        by_cases q : m' = l
        · simp [q]
        · simp [q, Addr.add_plain]
    · cases e
  · cases e

theorem ok_slA {t el : TypeId} {len sz : Nat} {a v : V} {x : Value} {lo hi mx : Option Int} {kl kh km : IntKind} (hu : P.underlying t = some (.array len el)) (hs : szT P el = some sz)
    (e : slA len sz lo hi mx a = some v) (r : V.rel μ S h a x) :
    ∃ y, (Instr.sliceAt t x (lo.map (.int kl)) (hi.map (.int kh)) (mx.map (.int km))).run P w = .ok y w ∧ V.rel μ S h v y := by
  unfold slA at e
  split at e
  · rename_i id off
    split at e
    · cases e
    · rename_i l u m hb
      injection e with e; subst e
      obtain ⟨h1, h2, rfl⟩ := r
      obtain ⟨m', g1, g2, g3, g4, g5, g6, g7⟩ := ok_bnds (P := P) (w := w) (isS := false) (kl := kl) (kh := kh) (km := km) hb (Nat.le_refl _)
      have hm : m' = m := by
        by_cases q : mx = none
        · have := g6 q; omega
        · exact g5 q
      subst hm
      refine ⟨.slice (some (if m' = l then ⟨(μ id).blk, off, none⟩ else (⟨(μ id).blk, off, none⟩ : Addr).add (l * sz))) (u - l) (m' - l), ?_, h1, h2, by omega, ?_⟩
      · simp only [Instr.sliceAt, Sem.run_bind, run_underlying hu, Result.andThen_ok, Instr.sureAddr, Sem.run_pure, g1, run_sizeOf hs]
      · by_cases q : m' = l
        · simp [q]
        · simp [q, Addr.add_plain]
  · cases e

theorem ok_slT {t : TypeId} {s : List UInt8} {lo hi : Option Int} {kl kh : IntKind} {l u m : Nat} (hu : P.underlying t = some .string) (e : bnds s.length s.length lo hi none = some (l, u, m)) :
    (Instr.sliceAt t (.string ⟨s.toArray⟩) (lo.map (.int kl)) (hi.map (.int kh)) none).run P w = .ok (.string ⟨((s.drop l).take (u - l)).toArray⟩) w := by
  obtain ⟨m', g1, g2, g3, g4, g5, g6, g7⟩ := ok_bnds (P := P) (w := w) (isS := false) (kl := kl) (kh := kh) (km := .i64) e (Nat.le_refl _)
  have hsz : (ByteArray.mk s.toArray).size = s.length := by simp [ByteArray.size]
  simp only [Option.map_none] at g1
  have hx : (ByteArray.mk s.toArray).extract l u = ⟨((s.drop l).take (u - l)).toArray⟩ := by
    rw [ByteArray.extract_mk]
  simp only [Instr.sliceAt, Sem.run_bind, run_underlying hu, Result.andThen_ok, Instr.slice, Option.isSome_none, Bool.false_eq_true, if_false, hsz, g1, Sem.run_pure, hx]

theorem eqGuard_int (op : BinOp) (t : TypeId) (x y : Operand) (k k' : IntKind) (a b : Int) : (eqGuard op t x y (.int k a) (.int k' b)).run P w = .ok () w := by
  cases op <;> simp [eqGuard]
theorem eqGuard_str (op : BinOp) (t : TypeId) (x y : Operand) (a b : ByteArray) : (eqGuard op t x y (.string a) (.string b)).run P w = .ok () w := by
  cases op <;> simp [eqGuard]

theorem ok_bin {op : BinOp} {t : TypeId} {x y : Operand} {a b c : D} {v u : Value} (e : binD op a b = some c) (ra : D.rel S a v) (rb : D.rel S b u) :
    ∃ z, (do eqGuard op t x y v u; binOp op t v u : Sem Value).run P w = .ok z w ∧ D.rel S c z := by
  unfold binD at e
  split at e
  · rename_i k a' k' b'
    rw [show v = _ from ra, show u = _ from rb]
    simp only [Sem.run_bind, eqGuard_int, Result.andThen_ok]
    split at e
    · split at e
      · cases e
      · rename_i hb; injection e with e; subst e
        exact ⟨_, by simp [binOp, Op.shift, hb], rfl⟩
    · split at e
      · cases e
      · rename_i hb; injection e with e; subst e
        exact ⟨_, by simp [binOp, Op.shift, hb], rfl⟩
    · rename_i n1 n2
      split at e
      · rename_i hk
        subst hk
        split at e
        · injection e with e; subst e; exact ⟨_, by simp [binOp, Op.intArith], rfl⟩
        · injection e with e; subst e; exact ⟨_, by simp [binOp, Op.intArith], rfl⟩
        · injection e with e; subst e; exact ⟨_, by simp [binOp, Op.intArith], rfl⟩
        · split at e
          · cases e
          · rename_i hb; injection e with e; subst e; exact ⟨_, by simp [binOp, Op.intDiv, hb], rfl⟩
        · split at e
          · cases e
          · rename_i hb; injection e with e; subst e; exact ⟨_, by simp [binOp, Op.intDiv, hb], rfl⟩
        · injection e with e; subst e; exact ⟨_, by simp [binOp, Op.intBits], rfl⟩
        · injection e with e; subst e; exact ⟨_, by simp [binOp, Op.intBits], rfl⟩
        · injection e with e; subst e; exact ⟨_, by simp [binOp, Op.intBits], rfl⟩
        · injection e with e; subst e; exact ⟨_, by simp [binOp, Op.intBits], rfl⟩
        · injection e with e; subst e; exact ⟨_, by simp [binOp, Op.intCmp], rfl⟩
        · injection e with e; subst e; exact ⟨_, by simp [binOp, Op.intCmp], rfl⟩
        · injection e with e; subst e; exact ⟨_, by simp [binOp, Op.intCmp], rfl⟩
        · injection e with e; subst e; exact ⟨_, by simp [binOp, Op.intCmp], rfl⟩
        · injection e with e; subst e; exact ⟨_, by simp [binOp, Op.intCmp], rfl⟩
        · injection e with e; subst e; exact ⟨_, by simp [binOp, Op.intCmp], rfl⟩
        · cases e
      · cases e
  · rename_i a' b'
    rw [show v = _ from ra, show u = _ from rb]
    simp only [Sem.run_bind, eqGuard_str, Result.andThen_ok]
    have hsz : ∀ l : List UInt8, (ByteArray.mk l.toArray).size = l.length := fun l => by simp [ByteArray.size]
    split at e
    · split at e
      · rename_i hl
        injection e with e; subst e
        have hmax : IntKind.i64.max = 9223372036854775807 := rfl
        refine ⟨_, by simp only [binOp, Op.stringOp, hsz, hmax]; rw [if_neg (by omega)]; rfl, ?_⟩
        show Value.string _ = Value.string _
        congr 1
      · cases e
    · injection e with e; subst e; exact ⟨_, by simp only [binOp, Op.stringOp, ByteArray.toList_mk]; rfl, rfl⟩
    · injection e with e; subst e; exact ⟨_, by simp only [binOp, Op.stringOp, ByteArray.toList_mk]; rfl, rfl⟩
    · injection e with e; subst e; exact ⟨_, by simp only [binOp, Op.stringOp, ByteArray.toList_mk]; rfl, rfl⟩
    · injection e with e; subst e; exact ⟨_, by simp only [binOp, Op.stringOp, ByteArray.toList_mk]; rfl, rfl⟩
    · injection e with e; subst e; exact ⟨_, by simp only [binOp, Op.stringOp, ByteArray.toList_mk]; rfl, rfl⟩
    · injection e with e; subst e; exact ⟨_, by simp only [binOp, Op.stringOp, ByteArray.toList_mk]; rfl, rfl⟩
    · cases e
  · cases e

theorem ok_un {op : UnOp} {a c : D} {v : Value} (e : unD op a = some c) (ra : D.rel S a v) : ∃ z, (Op.unary op v).run P w = .ok z w ∧ D.rel S c z := by
  unfold unD at e
  split at e
  · split at e
    · injection e with e; subst e; rw [show v = _ from ra]
      exact ⟨_, by simp [Op.unary, Op.intArith], rfl⟩
    · cases e
  · split at e
    · injection e with e; subst e; rw [show v = _ from ra]
      exact ⟨_, by simp [Op.unary], rfl⟩
    · cases e
  · cases e

/-- The kind of a type that has a nil. -/
def nkT (P : Program) (t : TypeId) : Option NK := match P.underlying t with
  | some (.pointer _) => some .ptr
  | some (.slice _) => some .sl
  | some (.map ..) => some .mp
  | some (.func ..) => some .fn
  | some (.interface _) => some .ifc
  | _ => none

def NK.nil : NK → D
  | .ptr => .nilp | .sl => .nils | .mp => .nilm | .fn => .nilf | .ifc => .nili

def isConstX : Operand → Bool
  | .const _ => true
  | _ => false

theorem eqGuard_nil {op : BinOp} {t : TypeId} {x y : Operand} (hc : isConstX x = true ∨ isConstX y = true) : (eqGuard op t x y .nilIface .nilIface).run P w = .ok () w := by
  cases x <;> cases y <;> simp [isConstX] at hc <;> cases op <;> simp [eqGuard]

theorem equal_succ : ∃ d, ∀ t x y, Op.equal t x y = Op.equalIn (d + 1) t x y := ⟨9999, fun _ _ _ => rfl⟩

theorem eq_of {t : TypeId} {x y : Operand} {v u : Value} {b : Bool} (neg : Bool) (hg : ∀ op, (eqGuard op t x y v u).run P w = .ok () w)
    (hb : ∀ op : BinOp, binOp .eql t v u = (do pure (.bool (← Op.equal t v u)))) (hn : binOp .neq t v u = (do pure (.bool (!(← Op.equal t v u))))) (he : (Op.equal t v u).run P w = .ok b w) :
    (do eqGuard (if neg then .neq else .eql) t x y v u; binOp (if neg then .neq else .eql) t v u : Sem Value).run P w = .ok (.bool (if neg then !b else b)) w := by
  cases neg
  · simp only [Bool.false_eq_true, if_false, Sem.run_bind, hg, Result.andThen_ok, hb .eql, he, Sem.run_pure]
  · simp only [if_true, Sem.run_bind, hg, Result.andThen_ok, hn, he, Sem.run_pure]

set_option maxHeartbeats 2000000 in
theorem ok_isnil {t : TypeId} {k : NK} {a : V} {b : Bool} {v u : Value} {x y : Operand} (hk : nkT P t = some k) (e : isNilK k a = some b) (r : V.rel μ S h a v) (ru : D.rel S k.nil u) (neg : Bool)
    (hc : isConstX x = true ∨ isConstX y = true) :
    (do eqGuard (if neg then .neq else .eql) t x y v u; binOp (if neg then .neq else .eql) t v u : Sem Value).run P w = .ok (.bool (if neg then !b else b)) w ∧
    (do eqGuard (if neg then .neq else .eql) t x y u v; binOp (if neg then .neq else .eql) t u v : Sem Value).run P w = .ok (.bool (if neg then !b else b)) w := by
  unfold nkT at hk
  cases k with
  | ptr =>
    obtain ⟨el, hu⟩ : ∃ el, P.underlying t = some (.pointer el) := by split at hk <;> first | (cases hk; done) | exact ⟨_, by assumption⟩
    rw [show u = .pointer none from ru]
    cases a with
    | d a =>
      cases a <;> simp only [isNilK] at e <;> first | (cases e; done) | (injection e with e; subst e)
      · rw [show v = _ from r]
        exact ⟨eq_of neg (fun op => by cases op <;> simp [eqGuard]) (fun _ => by rfl) rfl (by obtain ⟨d, hd⟩ := equal_succ; rw [hd]; simp [Op.equalIn, run_underlying hu]),
          eq_of neg (fun op => by cases op <;> simp [eqGuard]) (fun _ => by rfl) rfl (by obtain ⟨d, hd⟩ := equal_succ; rw [hd]; simp [Op.equalIn, run_underlying hu])⟩
      · obtain ⟨b, o, rfl, _⟩ := r
        exact ⟨eq_of neg (fun op => by cases op <;> simp [eqGuard]) (fun _ => by rfl) rfl (by obtain ⟨d, hd⟩ := equal_succ; rw [hd]; simp [Op.equalIn, run_underlying hu]),
          eq_of neg (fun op => by cases op <;> simp [eqGuard]) (fun _ => by rfl) rfl (by obtain ⟨d, hd⟩ := equal_succ; rw [hd]; simp [Op.equalIn, run_underlying hu])⟩
    | ptr =>
      simp only [isNilK] at e; injection e with e; subst e
      obtain ⟨_, _, rfl⟩ := r
      exact ⟨eq_of neg (fun op => by cases op <;> simp [eqGuard]) (fun _ => by rfl) rfl (by obtain ⟨d, hd⟩ := equal_succ; rw [hd]; simp [Op.equalIn, run_underlying hu]),
        eq_of neg (fun op => by cases op <;> simp [eqGuard]) (fun _ => by rfl) rfl (by obtain ⟨d, hd⟩ := equal_succ; rw [hd]; simp [Op.equalIn, run_underlying hu])⟩
    | _ => simp [isNilK] at e
  | sl =>
    obtain ⟨el, hu⟩ : ∃ el, P.underlying t = some (.slice el) := by split at hk <;> first | (cases hk; done) | exact ⟨_, by assumption⟩
    rw [show u = .slice none 0 0 from ru]
    have fin : ∀ (ad : Option Addr) (n c : Nat), b = ad.isNone → v = .slice ad n c → 
        (do eqGuard (if neg then .neq else .eql) t x y v (.slice none 0 0); binOp (if neg then .neq else .eql) t v (.slice none 0 0) : Sem Value).run P w = .ok (.bool (if neg then !b else b)) w ∧
        (do eqGuard (if neg then .neq else .eql) t x y (.slice none 0 0) v; binOp (if neg then .neq else .eql) t (.slice none 0 0) v : Sem Value).run P w = .ok (.bool (if neg then !b else b)) w := by
      rintro ad n c rfl rfl
      exact ⟨eq_of neg (fun op => by cases op <;> simp [eqGuard]) (fun _ => by rfl) rfl (by obtain ⟨d, hd⟩ := equal_succ; rw [hd]; cases ad <;> simp [Op.equalIn, run_underlying hu]),
        eq_of neg (fun op => by cases op <;> simp [eqGuard]) (fun _ => by rfl) rfl (by obtain ⟨d, hd⟩ := equal_succ; rw [hd]; cases ad <;> simp [Op.equalIn, run_underlying hu])⟩
    cases a with
    | d a =>
      cases a <;> simp only [isNilK] at e <;> first | (cases e; done) | (injection e with e; subst e) | skip
      · exact fin none 0 0 rfl r
      · rename_i sz n cells ex
        split at e
        · cases e
        · rename_i hn
          injection e with e; subst e
          obtain ⟨base, cap, rfl, h1, _, _, h4⟩ := r
          rcases h4 with ⟨_, h0⟩ | ⟨b, o, sp, rfl, _⟩
          · omega
          · exact fin _ _ _ rfl rfl
    | gs =>
      simp only [isNilK] at e
      split at e
      · cases e
      · injection e with e; subst e
        obtain ⟨_, base, cap, rfl, _, _, hb⟩ := r
        rcases hb with ⟨h0, _⟩ | ⟨_, b, rfl, _⟩
        · omega
        · exact fin _ _ _ rfl rfl
    | sl =>
      simp only [isNilK] at e; injection e with e; subst e
      obtain ⟨_, _, _, rfl⟩ := r; exact fin _ _ _ rfl rfl
    | _ => simp [isNilK] at e
  | mp =>
    obtain ⟨k1, k2, hu⟩ : ∃ k1 k2, P.underlying t = some (.map k1 k2) := by split at hk <;> first | (cases hk; done) | exact ⟨_, _, by assumption⟩
    rw [show u = .map none from ru]
    cases a with
    | d a =>
      cases a <;> simp only [isNilK] at e <;> first | (cases e; done) | (injection e with e; subst e)
      · rw [show v = _ from r]
        exact ⟨eq_of neg (fun op => by cases op <;> simp [eqGuard]) (fun _ => by rfl) rfl (by obtain ⟨d, hd⟩ := equal_succ; rw [hd]; simp [Op.equalIn, run_underlying hu]),
          eq_of neg (fun op => by cases op <;> simp [eqGuard]) (fun _ => by rfl) rfl (by obtain ⟨d, hd⟩ := equal_succ; rw [hd]; simp [Op.equalIn, run_underlying hu])⟩
    | _ => simp [isNilK] at e
  | fn =>
    obtain ⟨k1, k2, k3, hu⟩ : ∃ k1 k2 k3, P.underlying t = some (.func k1 k2 k3) := by split at hk <;> first | (cases hk; done) | exact ⟨_, _, _, by assumption⟩
    rw [show u = .nilFunc from ru]
    cases a with
    | d a =>
      cases a <;> simp only [isNilK] at e <;> first | (cases e; done) | (injection e with e; subst e)
      · rw [show v = _ from r]
        exact ⟨eq_of neg (fun op => by cases op <;> simp [eqGuard]) (fun _ => by rfl) rfl (by obtain ⟨d, hd⟩ := equal_succ; rw [hd]; simp [Op.equalIn, run_underlying hu]),
          eq_of neg (fun op => by cases op <;> simp [eqGuard]) (fun _ => by rfl) rfl (by obtain ⟨d, hd⟩ := equal_succ; rw [hd]; simp [Op.equalIn, run_underlying hu])⟩
      · obtain ⟨b, o, rfl, _⟩ := r
        exact ⟨eq_of neg (fun op => by cases op <;> simp [eqGuard]) (fun _ => by rfl) rfl (by obtain ⟨d, hd⟩ := equal_succ; rw [hd]; simp [Op.equalIn, run_underlying hu]),
          eq_of neg (fun op => by cases op <;> simp [eqGuard]) (fun _ => by rfl) rfl (by obtain ⟨d, hd⟩ := equal_succ; rw [hd]; simp [Op.equalIn, run_underlying hu])⟩
    | fn =>
      simp only [isNilK] at e; injection e with e; subst e
      obtain ⟨b, o, rfl, _⟩ := r
      exact ⟨eq_of neg (fun op => by cases op <;> simp [eqGuard]) (fun _ => by rfl) rfl (by obtain ⟨d, hd⟩ := equal_succ; rw [hd]; simp [Op.equalIn, run_underlying hu]),
        eq_of neg (fun op => by cases op <;> simp [eqGuard]) (fun _ => by rfl) rfl (by obtain ⟨d, hd⟩ := equal_succ; rw [hd]; simp [Op.equalIn, run_underlying hu])⟩
    | _ => simp [isNilK] at e
  | ifc =>
    obtain ⟨k1, hu⟩ : ∃ k1, P.underlying t = some (.interface k1) := by split at hk <;> first | (cases hk; done) | exact ⟨_, by assumption⟩
    rw [show u = .nilIface from ru]
    cases a with
    | d a =>
      cases a <;> simp only [isNilK] at e <;> first | (cases e; done) | (injection e with e; subst e)
      · rw [show v = _ from r]
        exact ⟨eq_of neg (fun op => eqGuard_nil hc) (fun _ => by rfl) rfl (by obtain ⟨d, hd⟩ := equal_succ; rw [hd]; simp [Op.equalIn, run_underlying hu]),
          eq_of neg (fun op => eqGuard_nil hc) (fun _ => by rfl) rfl (by obtain ⟨d, hd⟩ := equal_succ; rw [hd]; simp [Op.equalIn, run_underlying hu])⟩
      · obtain ⟨b, rfl, _⟩ := r
        exact ⟨eq_of neg (fun op => by cases op <;> simp [eqGuard]) (fun _ => by rfl) rfl (by obtain ⟨d, hd⟩ := equal_succ; rw [hd]; simp [Op.equalIn, run_underlying hu]),
          eq_of neg (fun op => by cases op <;> simp [eqGuard]) (fun _ => by rfl) rfl (by obtain ⟨d, hd⟩ := equal_succ; rw [hd]; simp [Op.equalIn, run_underlying hu])⟩
    | ifc =>
      simp only [isNilK] at e; injection e with e; subst e
      obtain ⟨b, rfl, _⟩ := r
      exact ⟨eq_of neg (fun op => by cases op <;> simp [eqGuard]) (fun _ => by rfl) rfl (by obtain ⟨d, hd⟩ := equal_succ; rw [hd]; simp [Op.equalIn, run_underlying hu]),
        eq_of neg (fun op => by cases op <;> simp [eqGuard]) (fun _ => by rfl) rfl (by obtain ⟨d, hd⟩ := equal_succ; rw [hd]; simp [Op.equalIn, run_underlying hu])⟩
    | _ => simp [isNilK] at e

end
end Go.Ev
