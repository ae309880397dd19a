/- The validity of calculators. No condition: contracts for the walks of the laws. -/
import Derived.Test.YtldhmlohkhmaaaaFmt
namespace Go.Proofs.Ytldhmlohkhmaaaa
open Go.ChangeShapes Go.WideShapes Go.ChangeAt Go.RowKit

set_option maxHeartbeats 1000000 in
theorem calv_impl (a b c : Int) (x : Bool) (w : World) : Calls Try.prog 7 #[.agg #[.int .i64 a, .int .i64 b, .int .i64 c, .bool x]] w fun e w' => e = .returned (.bool (fitB a b c)) ∧ Below w.heap.size w w' := by
  go_enter Try.func7, Try.ntmps7
  go_wp2_with fail
  refine (fits_impl _ _ _ _).mono ?_
  rintro e w' ⟨rfl, hb⟩
  (repeat (replace hb := undrew hb)); (repeat (replace hb := unalloc hb))
  have HB := Lib.hid hb
  clear hb
  go_wp2_with fail
  go_ret
  exact ⟨rfl, HB.out⟩

set_option maxHeartbeats 1000000 in
theorem calv_spec (a b c : Int) (x : Bool) (w : World) : Calls Try.prog 5 #[.agg #[.int .i64 a, .int .i64 b, .int .i64 c, .bool x]] w fun e w' => e = .returned (.bool (fitB a b c)) ∧ Below w.heap.size w w' := by
  go_enter Try.func5, Try.ntmps5
  go_wp2_with fail
  refine (fits_spec _ _ _ _).mono ?_
  rintro e w' ⟨rfl, hb⟩
  (repeat (replace hb := undrew hb)); (repeat (replace hb := unalloc hb))
  have HB := Lib.hid hb
  clear hb
  go_wp2_with fail
  go_ret
  exact ⟨rfl, HB.out⟩


end Go.Proofs.Ytldhmlohkhmaaaa
