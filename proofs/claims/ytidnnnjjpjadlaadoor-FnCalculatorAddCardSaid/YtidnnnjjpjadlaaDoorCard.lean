/- What the listed package-level variables of this seat read as; the door's own heap meets it. No condition: for the rows' steps. -/
import Derived.Test.YtidnnnjjpjadlaaDoorBase
import Derived.Test.YtidnnnjjpjadlaaDoorTie
import Derived.Test.YtidnnnjjpjadlaaDoorCards
import Derived.LaidMore
import Derived.Stop.Joined
namespace Go.Proofs.YtidnnnjjpjadlaaDoor
open Go.ChangeShapes Go.WideShapes Go.ChangeAt Go.RowKit

def laidL {H : Type} : List (String × DataW H) := [("math/bits.deBruijn32tab", Rows.laid_math_bits_deBruijn32tab), ("math/bits.deBruijn64tab", Rows.laid_math_bits_deBruijn64tab), ("internal/strconv.uint64pow10", Rows.laid_internal_strconv_uint64pow10)]
set_option maxRecDepth 100000 in
theorem door_met (os : Os) (args : Array Value) : laidMetH Tryd.prog laidL ((World.doorLaid Tryd.prog 400 os).forCall (fun _ _ => 0) ⟨#[], args, []⟩).memory :=
  laidMetH_of_parts3 (fuel := 8) (laidMet_of_run' 8 (by kernel_rfl) (by kernel_rfl)) (by kernel_rfl) (by kernel_rfl)

end Go.Proofs.YtidnnnjjpjadlaaDoor
