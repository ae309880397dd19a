/- The drawing function of the law on reduced fractions. No condition: contracts for the walks of the laws. -/
import Derived.Test.YtlcmpcjimmdcfaaDrawG
namespace Go.Proofs.Ytlcmpcjimmdcfaa
open Go.ChangeShapes Go.WideShapes Go.ChangeAt Go.RowKit

set_option maxHeartbeats 1000000 in
theorem drawreducefraction_any {w : World} {a : Option Addr} {len cap : Nat} {zs : List Int} (hrow : IsRow .u8 w a len cap zs) :
    Calls Try.prog 26 #[.slice a len cap] w (TwoPost (-1152921504606846976) 1152921504606846977 (-1152921504606846976) 1152921504606846976 w) := by
  go_enter Try.func26, Try.ntmps26
  go_wp2_with fail
  refine (drawgcdof_any hrow).mono ?_
  rintro e w1 ⟨x, y, x0, x1, y0, y1, rfl, hb⟩
  have HB := Lib.hid hb
  clear hb hrow
  go_wp2_with fail
  go_ret2
  exact ⟨x, y, x0, x1, y0, y1, rfl, HB.out⟩

end Go.Proofs.Ytlcmpcjimmdcfaa
