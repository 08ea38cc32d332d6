/- What each operation of the machine does, in the abstract operations' words: addresses, parts, slices. -/
import Derived.Test.YtgkjmdbjncnlpaaDoorEvG
namespace Go.Ev
set_option linter.unusedVariables false
set_option linter.unusedSimpArgs false

section
variable {P : Program} {μ : Mu} {S : Stab} {h : List Blk} {w : World}

theorem ok_fadrV {off : Nat} {a v : V} {x : Value} (e : fadrV off a = some v) (r : V.rel μ S h a x) :
    ∃ b o, x = .pointer (some ⟨b, o, none⟩) ∧ V.rel μ S h v (.pointer (some ⟨b, o + off, none⟩)) := by
  unfold fadrV at e
  split at e
  · injection e with e; subst e
    obtain ⟨h1, h2, h3⟩ := r
    exact ⟨_, _, h3, h1, h2, rfl⟩
  · injection e with e; subst e
    obtain ⟨b, o, h3, hat⟩ := r
    exact ⟨b, o, h3, b, o + off, rfl, D.relAt_drop off hat⟩
  · cases e

theorem ok_fadr {t : TypeId} {fs : Array Field} {j n : Nat} {f : Field} {a v : V} {x : Value} (hu : P.underlying t = some (.struct fs)) (hf : fs[j]? = some f)
    (hs : szT P f.type = some n) (hn : n ≠ 0) (e : fadrV f.offset a = some v) (r : V.rel μ S h a x) :
    ∃ y, (Instr.fieldAt t x j).run P w = .ok y w ∧ V.rel μ S h v y := by
  obtain ⟨b, o, rfl, hr⟩ := ok_fadrV e r
  refine ⟨_, ?_, hr⟩
  simp only [Instr.fieldAt, Sem.run_bind, run_underlying hu, Result.andThen_ok, hf, Instr.sureAddr, Sem.run_pure, fieldPlace, run_sizeOf hs, hn, if_false, Addr.add_plain]

theorem int?_eq {v : V} {n : Int} (e : v.int? = some n) : ∃ k, v = .d (.int k n) := by
  unfold V.int? at e
  split at e
  · injection e with e; subst e; exact ⟨_, rfl⟩
  · cases e

theorem ok_iadrA {t el : TypeId} {len sz : Nat} {a v : V} {x : Value} {k : IntKind} {n : Int} (hu : P.underlying t = some (.array len el)) (hs : szT P el = some sz)
    (h0 : 0 ≤ n) (h1 : n < len) (e : fadrV (n.toNat * sz) a = some v) (r : V.rel μ S h a x) :
    ∃ y, (Instr.indexAt t x (.int k n)).run P w = .ok y w ∧ V.rel μ S h v y := by
  obtain ⟨b, o, rfl, hr⟩ := ok_fadrV e r
  refine ⟨_, ?_, hr⟩
  simp only [Instr.indexAt, asIntOf, Sem.run_bind, run_underlying hu, Result.andThen_ok, Instr.sureAddr, Sem.run_pure, h0, h1, and_self, if_true, run_sizeOf hs, Addr.add_plain]

theorem ok_iadrS {t el : TypeId} {sz : Nat} {a v : V} {x : Value} {k : IntKind} {n : Int} (hu : P.underlying t = some (.slice el)) (hs : szT P el = some sz)
    (e : iadrV sz n a = some v) (r : V.rel μ S h a x) :
    ∃ y, (Instr.indexAt t x (.int k n)).run P w = .ok y w ∧ V.rel μ S h v y := by
  have key : ∀ (b o m cap : Nat), 0 ≤ n → n < m → (Instr.indexAt t (.slice (some ⟨b, o, none⟩) m cap) (.int k n)).run P w = .ok (.pointer (some ⟨b, o + n.toNat * sz, none⟩)) w := by
    intro b o m cap h0 h1
    simp only [Instr.indexAt, asIntOf, Sem.run_bind, run_underlying hu, Result.andThen_ok, Sem.run_pure, h0, h1, and_self, if_true, run_sizeOf hs, Addr.add_plain]
  unfold iadrV at e
  split at e
  · split at e
    · rename_i hc
      injection e with e; subst e
      obtain ⟨base, cap, rfl, hnc, _, _, hb⟩ := r
      rcases hb with ⟨_, h0⟩ | ⟨b, o, sp, rfl, hat, hsp⟩
      · omega
      obtain rfl := hsp (by omega)
      exact ⟨_, key b o _ cap hc.2.1 hc.2.2, b, _, rfl, D.relAt_drop _ hat⟩
    · cases e
  · split at e
    · rename_i hc
      injection e with e; subst e
      obtain ⟨_, base, cap, rfl, _, _, hb⟩ := r
      rcases hb with ⟨h0, _⟩ | ⟨_, b, rfl, hat, _⟩
      · omega
      exact ⟨_, key b 0 _ cap hc.2.1 hc.2.2, b, _, rfl, D.relAt_drop _ hat⟩
    · cases e
  · split at e
    · rename_i hc
      injection e with e; subst e
      obtain ⟨h1, h2, _, rfl⟩ := r
      exact ⟨_, key _ _ _ _ hc.2.1 hc.2.2, h1, h2, rfl⟩
    · cases e
  · cases e

theorem ok_partV {ag : Bool} {t : TypeId} {off n : Nat} {cs : List V} {v : V} {vs : List Value} (hs : szT P t = some n) (ha : agT P t = some ag)
    (e : partV ag off n cs = some v) (r : V.rels μ S h cs vs) : ∃ y, (part t vs.toArray off).run P w = .ok y w ∧ V.rel μ S h v y := by
  unfold partV at e
  split at e
  · rename_i hag
    subst hag
    split at e
    · rename_i hl
      injection e with e; subst e
      have hr := V.rels_take n (V.rels_drop off r)
      refine ⟨.agg ((vs.drop off).take n).toArray, ?_, mkAgg_rel hr⟩
      simp only [part, Sem.run_bind, run_isAgg ha, Result.andThen_ok, if_true, run_sizeOf hs, Sem.run_pure]
      congr 2
      apply Array.ext'
      simp only [Array.toList_extract, List.extract_eq_take_drop]
      congr 1
      omega
    · cases e
  · rename_i hag
    have hag : ag = false := by simpa using hag
    subst hag
    obtain ⟨y, h1, h2⟩ := V.rels_get off v r e
    refine ⟨y, ?_, h2⟩
    simp [part, Sem.run_bind, run_isAgg ha, Result.andThen_ok, h1]

theorem allD_map : ∀ l : List D, allD (l.map V.d) = some l
  | [] => rfl
  | a :: l => by simp [allD, allD_map l]

theorem mkAgg_map (l : List D) : mkAgg (l.map V.d) = .d (.agg l) := by simp [mkAgg, allD_map]

theorem partD_V {ag : Bool} {off n : Nat} {cs : List D} {v : V} (e : partD ag off n cs = some v) : partV ag off n (cs.map .d) = some v := by
  unfold partD at e; unfold partV
  split at e
  · split at e
    · rename_i h1 h2
      rw [if_pos h1]
      rw [← List.map_drop, ← List.map_take, if_pos (by simpa using h2)]
      rw [← e, mkAgg_map]
    · cases e
  · rename_i h1
    rw [if_neg h1]; simpa using e

theorem ok_fldV {ag : Bool} {t : TypeId} {off n : Nat} {a v : V} {x : Value} (hs : szT P t = some n) (ha : agT P t = some ag)
    (e : fldV ag off n a = some v) (r : V.rel μ S h a x) : ∃ vs : List Value, x = .agg vs.toArray ∧ ∃ y, (part t vs.toArray off).run P w = .ok y w ∧ V.rel μ S h v y := by
  unfold fldV at e
  split at e
  · obtain ⟨vs, rfl, r⟩ := r
    exact ⟨vs, rfl, ok_partV hs ha (partD_V e) (V.rels_d.2 r)⟩
  · obtain ⟨vs, rfl, r⟩ := r
    exact ⟨vs, rfl, ok_partV hs ha e r⟩
  · cases e

theorem ok_fld {ag : Bool} {t : TypeId} {fs : Array Field} {j n : Nat} {f : Field} {a v : V} {x : Value} (hu : P.underlying t = some (.struct fs)) (hf : fs[j]? = some f)
    (hs : szT P f.type = some n) (ha : agT P f.type = some ag) (e : fldV ag f.offset n a = some v) (r : V.rel μ S h a x) :
    ∃ y, (Instr.field t x j).run P w = .ok y w ∧ V.rel μ S h v y := by
  obtain ⟨vs, rfl, y, h1, h2⟩ := ok_fldV (w := w) hs ha e r
  refine ⟨y, ?_, h2⟩
  simp only [Instr.field, Sem.run_bind, run_underlying hu, Result.andThen_ok, hf, asAgg, Sem.run_pure, h1]

theorem ok_idxA {ag : Bool} {t el : TypeId} {len sz : Nat} {a v : V} {x : Value} {k : IntKind} {n : Int} (hu : P.underlying t = some (.array len el))
    (hs : szT P el = some sz) (ha : agT P el = some ag) (h0 : 0 ≤ n) (h1 : n < len) (e : fldV ag (n.toNat * sz) sz a = some v) (r : V.rel μ S h a x) :
    ∃ y, (Instr.index t x (.int k n)).run P w = .ok y w ∧ V.rel μ S h v y := by
  obtain ⟨vs, rfl, y, h3, h4⟩ := ok_fldV (w := w) hs ha e r
  refine ⟨y, ?_, h4⟩
  simp only [Instr.index, asIntOf, Sem.run_bind, run_underlying hu, Result.andThen_ok, Sem.run_pure, h0, h1, and_self, if_true, run_sizeOf hs, h3]

theorem ok_idxS {t : TypeId} {l : List UInt8} {k : IntKind} {n : Int} {b : UInt8} (hu : P.underlying t = some .string) (h0 : 0 ≤ n) (e : l[n.toNat]? = some b) :
    (Instr.index t (.string ⟨l.toArray⟩) (.int k n)).run P w = .ok (.int .u8 b.toNat) w := by
  have hb : (ByteArray.mk l.toArray)[n.toNat]? = some b := by
    have hlt := lt_of_get e
    have hs : n.toNat < (ByteArray.mk l.toArray).size := by simpa [ByteArray.size] using hlt
    rw [getElem?_pos (ByteArray.mk l.toArray) n.toNat hs]
    have : (ByteArray.mk l.toArray)[n.toNat]'hs = l[n.toNat]'hlt := rfl
    rw [this]; rw [List.getElem?_eq_getElem hlt] at e; exact e
  simp only [Instr.index, asIntOf, Sem.run_bind, run_underlying hu, Result.andThen_ok, Sem.run_pure, h0, if_true, hb]

theorem bnd_some {z : Int} {d : Option Nat} {y r : Nat} (e : bnd (some z) d y = some r) : 0 ≤ z ∧ z ≤ y ∧ r = z.toNat ∧ r ≤ y := by
  unfold bnd at e
  simp only at e
  split at e
  · rename_i h
    injection e with e
    exact ⟨h.1, h.2, e.symm, by omega⟩
  · cases e

/-- The bounds of a slice expression. -/
theorem ok_bnds {isS : Bool} {len cap cap' : Nat} {lo hi mx : Option Int} {l u m : Nat} {kl kh km : IntKind} (e : bnds len cap lo hi mx = some (l, u, m)) (hc : cap ≤ cap') :
    ∃ m', (Instr.sliceBounds isS len cap' (lo.map (.int kl)) (hi.map (.int kh)) (mx.map (.int km))).run P w = .ok (l, u, m') w ∧ l ≤ u ∧ u ≤ m ∧ m ≤ m' ∧ (mx ≠ none → m' = m) ∧ (mx = none → m' = cap' ∧ m = cap) ∧
      (hi = none → u = len) := by
  have hb : ∀ (k : IntKind) (z : Int) (y : Nat) (c : BoundsCode), 0 ≤ z → z ≤ y → (Instr.sliceBound (.int k z) y c).run P w = .ok z.toNat w := fun k z y c h0 h1 => run_sliceBound w k z y c h0 h1
  unfold bnds at e
  split at e
  · cases e
  · rename_i m0 hm
    split at e
    · cases e
    · rename_i u0 hu
      split at e
      · cases e
      · rename_i l0 hl
        injection e with e; injection e with e1 e2; injection e2 with e2 e3; subst e1; subst e2; subst e3
        cases mx with
        | none =>
          simp only [bnd, Option.some.injEq] at hm; subst hm
          cases hi with
          | none =>
            simp only [bnd, Option.isSome_none, Bool.false_eq_true, false_or] at hu
            split at hu
            · cases hu
            · rename_i hlc
              injection hu with hu; subst hu
              cases lo with
              | none =>
                simp only [bnd, Option.some.injEq] at hl; subst hl
                exact ⟨cap', by simp [Instr.sliceBounds], by omega, by omega, hc, by simp, fun _ => ⟨rfl, rfl⟩, fun _ => rfl⟩
              | some z =>
                obtain ⟨a1, a2, a3, a4⟩ := bnd_some hl
                exact ⟨cap', by simp [Instr.sliceBounds, hb kl z _ _ a1 a2, a3], a4, by omega, hc, by simp, fun _ => ⟨rfl, rfl⟩, fun _ => rfl⟩
          | some y =>
            obtain ⟨b1, b2, b3, b4⟩ := bnd_some hu
            have b5 : y ≤ (cap' : Int) := by omega
            subst b3
            cases lo with
            | none =>
              simp only [bnd, Option.some.injEq] at hl; subst hl
              exact ⟨cap', by simp [Instr.sliceBounds, hb kh y cap' _ b1 b5], by omega, b4, hc, by simp, fun _ => ⟨rfl, rfl⟩, by simp⟩
            | some z =>
              obtain ⟨a1, a2, a3, a4⟩ := bnd_some hl
              exact ⟨cap', by simp [Instr.sliceBounds, hb kh y cap' _ b1 b5, hb kl z _ _ a1 a2, a3], a4, b4, hc, by simp, fun _ => ⟨rfl, rfl⟩, by simp⟩
        | some x =>
          obtain ⟨c1, c2, c3, c4⟩ := bnd_some hm
          have c5 : x ≤ (cap' : Int) := by omega
          subst c3
          cases hi with
          | none => simp [bnd] at hu
          | some y =>
            obtain ⟨b1, b2, b3, b4⟩ := bnd_some hu
            subst b3
            cases lo with
            | none =>
              simp only [bnd, Option.some.injEq] at hl; subst hl
              exact ⟨x.toNat, by simp [Instr.sliceBounds, hb km x cap' _ c1 c5, hb kh y _ _ b1 b2], by omega, b4, Nat.le_refl _, fun _ => rfl, by simp, by simp⟩
            | some z =>
              obtain ⟨a1, a2, a3, a4⟩ := bnd_some hl
              exact ⟨x.toNat, by simp [Instr.sliceBounds, hb km x cap' _ c1 c5, hb kh y _ _ b1 b2, hb kl z _ _ a1 a2, a3], a4, b4, Nat.le_refl _, fun _ => rfl, by simp, by simp⟩

end
end Go.Ev
