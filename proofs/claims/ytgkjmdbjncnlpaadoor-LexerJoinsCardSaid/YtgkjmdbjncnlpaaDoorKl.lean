/- The two variables of the library hold errors when a law's call begins; a start at which they do. -/
import Derived.Test.YtgkjmdbjncnlpaaDoorKg
import Derived.Test.YtgkjmdbjncnlpaaDoorEv4
import Derived.LaidMore
import Derived.OpenShut
import Derived.Stop.Joined
import Derived.Stop.LaidErr
namespace Go.Proofs.YtgkjmdbjncnlpaaDoor
open Go.Ev Go.ChangeShapes Go.WideShapes Go.ChangeAt Go.WideMaps Go.WideElems Go.RowKit
set_option maxRecDepth 100000

theorem own : ownKnob Tryd.prog.godebug = none := by kernel_rfl
theorem gES : Tryd.prog.globalNamed "strconv.ErrSyntax" = some 0 := by kernel_rfl
theorem gER : Tryd.prog.globalNamed "strconv.ErrRange" = some 1 := by kernel_rfl
theorem tES : (Tryd.prog.globals[0]?).map (·.type) = some 50 := by kernel_rfl
theorem tER : (Tryd.prog.globals[1]?).map (·.type) = some 50 := by kernel_rfl
theorem star : "*" ++ "errors.errorString" = "*errors.errorString" := by decide
theorem row69 (u : TypeId) (h : Tryd.prog.typeName? 3 u = some "*errors.errorString") : u = 69 :=
  typeName_ptr_named (nm := "errors.errorString") (by rw [star]; kernel_rfl) (by kernel_rfl) (by decide) u (by rw [star]; exact h)

/-- What the rows list. -/
def laid5 : List (String × DataW Unit) := [("math/bits.deBruijn32tab", Rows.laid_math_bits_deBruijn32tab), ("math/bits.deBruijn64tab", Rows.laid_math_bits_deBruijn64tab), ("internal/strconv.uint64pow10", Rows.laid_internal_strconv_uint64pow10), ("strconv.ErrRange", Rows.laid_strconv_ErrRange), ("strconv.ErrSyntax", Rows.laid_strconv_ErrSyntax)]

/-- The door's own heap meets it. -/
theorem door_met (os : Os) (args : Array Value) : laidMetH Tryd.prog laid5 ((World.doorLaid Tryd.prog 4000 os).forCall (fun _ _ => 0) ⟨#[], args, []⟩).memory :=
  laidMetH_of_parts3 (fuel := 100) (laidMet_of_run' 100 (by kernel_rfl) (by kernel_rfl)) (by kernel_rfl) (by kernel_rfl)

theorem gok_of {W : World} (h : laidMetH Tryd.prog laid5 W) : GOK GL (stab W) := by
  rw [MakeChecks.laidMetH_plain _ _ _ (by kernel_rfl)] at h
  have h3 := h.tail.tail.tail
  obtain ⟨a1, s1, hv1, -, -, -⟩ := laid_sentinel h3 gER tER Tryd.underlying50 row69 Tryd.underlying69 Tryd.underlying71 rfl rfl Tryd.underlying9 (by kernel_rfl) (by kernel_rfl)
  obtain ⟨a0, s0, hv0, -, -, -⟩ := laid_sentinel h3.tail gES tES Tryd.underlying50 row69 Tryd.underlying69 Tryd.underlying71 rfl rfl Tryd.underlying9 (by kernel_rfl) (by kernel_rfl)
  have c0 : W.cell? ⟨0, 0, none⟩ = some (.iface 69 (.pointer (some a0))) := by have h0 := World.var?_cell gES hv0 0; simpa using h0
  have c1 : W.cell? ⟨1, 0, none⟩ = some (.iface 69 (.pointer (some a1))) := by have h0 := World.var?_cell gER hv1 0; simpa using h0
  intro g cs e
  unfold GL at e
  split at e
  · rename_i hg; subst hg; injection e with e; subst e
    exact ⟨⟨_, stab_of c0 trivial, _, rfl, trivial⟩, trivial⟩
  · split at e
    · rename_i hg; subst hg; injection e with e; subst e
      exact ⟨⟨_, stab_of c1 trivial, _, rfl, trivial⟩, trivial⟩
    · cases e

end Go.Proofs.YtgkjmdbjncnlpaaDoor
