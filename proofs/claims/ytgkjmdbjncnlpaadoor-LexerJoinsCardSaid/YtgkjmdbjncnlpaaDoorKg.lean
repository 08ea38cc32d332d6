/- What the library's functions answer that the laws over the lexer call, and the two variables of the library that are read. -/
import Derived.Test.YtgkjmdbjncnlpaaDoorEv1
import Derived.Test.YtgkjmdbjncnlpaaDoorShelf
import Derived.Test.YtgkjmdbjncnlpaaDoorRows
import Derived.Stop.LaidErr
namespace Go.Proofs.YtgkjmdbjncnlpaaDoor
open Go.Ev Go.Proofs Go.RowKit
set_option maxRecDepth 100000

/-- strconv.ErrSyntax and strconv.ErrRange: errors made of a text. -/
def GL : Glob := fun g => if g = 0 then some [.ifc 69 .undef] else if g = 1 then some [.ifc 69 .undef] else none

def F30 (n : Nat) : Ev.Fn := cloneF
def F31 (n : Nat) : Ev.Fn := atoiF 58

theorem p30 (n : Nat) : Pure Tryd.prog GL 30 (F30 n) := clone_pure (callable_of (by kernel_rfl)) fun s w h => Tryd.stringslite_Clone s w h

theorem p31 (n : Nat) : Pure Tryd.prog GL 31 (F31 n) :=
  atoi_pure (tb := 5) (te := 69) (gR := 1) (callable_of (by kernel_rfl)) rfl
    (fun s h v e w => Tryd.strconv_Atoi_ok s h v e w)
    (fun s h e ev w h1 h2 => (Tryd.strconv_Atoi_range s h e ev w h1 h2).mono fun e w' ⟨N, a, _, _, b⟩ => ⟨N, a, b⟩)

end Go.Proofs.YtgkjmdbjncnlpaaDoor
