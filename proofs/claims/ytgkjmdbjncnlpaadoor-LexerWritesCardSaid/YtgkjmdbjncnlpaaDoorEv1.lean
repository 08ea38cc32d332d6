/- What the library's contracts say of a function, as a function of plain data. -/
import Derived.Test.YtgkjmdbjncnlpaaDoorEvX
import Derived.Shelf.Strconv.ErrVarAll
import Derived.WalkSpells
namespace Go.Ev
open Go.Proofs Go.RowKit
set_option linter.unusedVariables false
set_option linter.unusedSimpArgs false

theorem tr_below {S : Stab} {w w' : World} (i : Inv μ0 S [] w) (b : Below w.heap.size w w') : Tr μ0 S [] w μ0 S [] w' where
  inv := ⟨fun b' o v e => ⟨cell_later b (i.st b' o v e).1, (i.st b' o v e).2⟩, fun k x e => by simp at e, fun k j x y e => by simp at e, fun k cs e => by simp at e, fun k sz n e => by simp at e⟩
  kp := Kp.refl _ _ _
  fresh := fun _ _ _ e e0 => by rw [e0] at e; cases e
  frame := fun k hk _ => b.block k hk
  own := fun k ⟨j, x, e, _⟩ => by simp at e
  size := b.size
  os := b.os
  tape := b.tape
  output := b.output

/-- A contract whose answer is plain data, and that turns nothing that was there. -/
theorem pure_below {P : Program} {G : Glob} {f : FuncId} {F : List D → Option D} (hc : Callable P f)
    (h : ∀ (S : Stab) (w : World) (ds : List D) (vs : List Value) (d : D), Inv μ0 S [] w → GOK G S → D.rels S ds vs → F ds = some d →
      Calls P f vs.toArray w fun e w' => ∃ v, e = .returned v ∧ Below w.heap.size w w' ∧ D.rel S d v) : Pure P G f F := by
  refine ⟨hc, fun S w ds vs d i hG hr hF => (h S w ds vs d i hG hr hF).mono ?_⟩
  rintro e w' ⟨v, rfl, hb, hv⟩
  exact ⟨v, S, rfl, tr_below i hb, hv⟩

/-- A copy of a string. -/
def cloneF : List D → Option D
  | [.str l] => if l.length ≤ 281474976710656 then some (.str l) else none
  | _ => none

theorem size_mk (l : List UInt8) : (⟨l.toArray⟩ : ByteArray).size = l.length := by simp [ByteArray.size]

theorem clone_pure {P : Program} {G : Glob} {f : FuncId} (hc : Callable P f)
    (h : ∀ (s : ByteArray) (w : World), s.size ≤ 281474976710656 → Calls P f #[.string s] w fun e w' => e = .returned (.string s) ∧ Below w.heap.size w w') : Pure P G f cloneF := by
  refine pure_below hc fun S w ds vs d i hG hr hF => ?_
  unfold cloneF at hF
  split at hF
  · rename_i l
    split at hF
    · rename_i hl
      injection hF with hF; subst hF
      obtain ⟨v, ws, rfl, rfl, rfl⟩ := hr
      refine (h ⟨l.toArray⟩ w (by rw [size_mk]; exact hl)).mono ?_
      rintro e w' ⟨rfl, hb⟩
      exact ⟨_, rfl, hb, rfl⟩
    · cases hF
  · cases hF

/-- What strconv.Atoi answers; tE: the type of its error. -/
def atoiF (tE : TypeId) : List D → Option D
  | [.str l] => if l.length ≤ 281474976710656 then
      match Lib.atoiAll l with
      | .ok v => some (.tup [.int .i64 v, .nili])
      | .range => some (.tup [.int .i64 (Lib.atoiSat l), .ifc tE .undef])
      | _ => none
    else none
  | _ => none

theorem glob_iface {G : Glob} {S : Stab} {w : World} {g : Nat} {t : TypeId} (i : Inv μ0 S [] w) (hG : GOK G S) (e : G g = some [.ifc t .undef]) :
    ∃ u, w.cell? ⟨g, 0, none⟩ = some (.iface t u) := by
  obtain ⟨⟨v, hv, u, rfl, _⟩, _⟩ := hG g _ e
  exact ⟨u, (i.st _ _ _ hv).1⟩

theorem atoi_pure {P : Program} {G : Glob} {f : FuncId} {tE te tb : TypeId} {gR : Nat} (hc : Callable P f) (eR : G gR = some [.ifc te .undef])
    (h1 : ∀ (s : ByteArray), s.size ≤ 9223372036854775806 → ∀ (v : Int), Lib.atoiAll s.data.toList = .ok v → ∀ (w : World), Calls P f #[.string s] w fun e w' => e = .returned (.tuple #[.int .i64 v, .nilIface]) ∧ (w' = w ∨ ∃ t, w' = Lib.bytesWorld w tb t))
    (h3 : ∀ (s : ByteArray), s.size ≤ 281474976710656 → Lib.atoiAll s.data.toList = .range → ∀ (ev : Value) (w : World), w.cell? ⟨gR, 0, none⟩ = some ev → (ev = .nilIface ∨ ∃ te pe, ev = .iface te pe) →
      Calls P f #[.string s] w fun e w' => ∃ N, e = .returned (.tuple #[.int .i64 (Lib.atoiSat s.data.toList), .iface tE (.pointer (some ⟨N, 0, none⟩))]) ∧ Below w.heap.size w w') :
    Pure P G f (atoiF tE) := by
  refine pure_below hc fun S w ds vs d i hG hr hF => ?_
  unfold atoiF at hF
  split at hF
  · rename_i l
    split at hF
    · rename_i hl
      obtain ⟨v, ws, rfl, rfl, rfl⟩ := hr
      have hs : (⟨l.toArray⟩ : ByteArray).size ≤ 281474976710656 := by rw [size_mk]; exact hl
      split at hF
      · rename_i v ha
        injection hF with hF; subst hF
        refine (h1 ⟨l.toArray⟩ (by omega) v ha w).mono ?_
        rintro e w' ⟨rfl, hb⟩
        refine ⟨_, rfl, ?_, [.int .i64 v, .nilIface], rfl, _, _, rfl, rfl, _, _, rfl, rfl, rfl⟩
        rcases hb with rfl | ⟨t, rfl⟩
        · exact Below.refl _ _
        · exact Lib.bytesWorld_below _ _ _
      · rename_i ha
        injection hF with hF; subst hF
        obtain ⟨u, hu⟩ := glob_iface i hG eR
        refine (h3 ⟨l.toArray⟩ hs ha _ w hu (.inr ⟨_, _, rfl⟩)).mono ?_
        rintro e w' ⟨N, rfl, hb⟩
        exact ⟨_, rfl, hb, [.int .i64 (Lib.atoiSat l), .iface tE (.pointer (some ⟨N, 0, none⟩))], rfl, _, _, rfl, rfl, _, _, rfl, ⟨_, rfl, trivial⟩, rfl⟩
      · cases hF
    · cases hF
  · cases hF

end Go.Ev
