/- ReadStored of the reference, all texts. No condition: contracts for the walks of the laws. -/
import Derived.Test.YtcgbbbcanmkcbaaDoorRsE
import Derived.Test.YtcgbbbcanmkcbaaDoorRsM
import Derived.Test.YtcgbbbcanmkcbaaDoorRsP
namespace Go.Proofs.YtcgbbbcanmkcbaaDoor
open Go.ChangeShapes Go.WideShapes Go.ChangeAt Go.RowKit

theorem rds_spec (p q : Int) (s : ByteArray) (w : World) (hs : s.size ≤ 2000000) : Calls Tryd.prog 28 #[.agg #[.int .i64 p, .int .i64 q], .string s] w fun e w' => e = .returned (.tuple #[.int .i64 (rsN p q s), .bool (rsOk p q s)]) ∧ Below w.heap.size w w' := by
  rcases hv0 : fmtB p q
  · exact rds_bad p q s w hv0
  · rcases (by omega : s.size = 0 ∨ 0 < s.size) with hz | hz
    · exact rds_nil p q s w hv0 hz
    · by_cases h45 : s[0] = 45
      · exact rds_min p q s w hs hv0 hz h45
      · exact rds_pos p q s w hs hv0 hz h45
end Go.Proofs.YtcgbbbcanmkcbaaDoor
