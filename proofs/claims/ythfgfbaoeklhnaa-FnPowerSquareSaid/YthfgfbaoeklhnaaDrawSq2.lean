/- The drawing functions of the laws on square tables. No condition: contracts for the walks of the laws. -/
import Derived.Test.YthfgfbaoeklhnaaDrawSq
namespace Go.Proofs.Ythfgfbaoeklhnaa
open Go.ChangeShapes Go.WideShapes Go.ChangeAt Go.RowKit


def SqOnePost (w : World) (e : Ending) (w' : World) : Prop := ∃ a b c d : Int, (-1000000001 ≤ a ∧ a ≤ 1000000001) ∧ (-1000000001 ≤ b ∧ b ≤ 1000000001) ∧ (-1000000001 ≤ c ∧ c ≤ 1000000001) ∧ (-1000000001 ≤ d ∧ d ≤ 1000000001) ∧ e = .returned (.agg #[.int .i64 a, .int .i64 b, .int .i64 c, .int .i64 d]) ∧ Below w.heap.size w w'

set_option maxHeartbeats 1000000 in
theorem drawsquarevalid_any {w : World} {a : Option Addr} {len cap : Nat} {zs : List Int} (hrow : IsRow .u8 w a len cap zs) :
    Calls Try.prog 31 #[.slice a len cap] w (SqOnePost w) := by
  have hZ := isRow_alloc hrow (.cells #[.int .i64 0, .int .i64 0, .int .i64 0, .int .i64 0] 25)
  clear hrow
  go_enter Try.func31, Try.ntmps31
  go_wp2_with fail
  refine (open_any hZ).mono ?_
  rintro e w1 ⟨g, rfl, R0⟩
  go_wp2_with fail
  refine (l20squaretable_any R0 (by omega) (by omega) (by omega)).mono ?_
  rintro e w2 ⟨a, b, c, d, ha, hb, hc, hd, rfl, R1, G1⟩
  have hbl := R1.below
  obtain ⟨d0, d1, d2, d3, e0, e1, e2, e3, lz⟩ := blk4 ((Blk.new w 25 #[.int .i64 0, .int .i64 0, .int .i64 0, .int .i64 0]).below hbl (by simp))
  have HB := Lib.hid (Below.trans ((Below.refl _ w).alloc (Nat.le_refl _) _) (hbl.mono (by simp)))
  have HA := Lib.hid (And.intro ha (And.intro hb (And.intro hc hd)))
  clear hbl R0 R1 G1 hZ ha hb hc hd
  go_wp2_with fail
  refine bodyPost_ret (v := .agg #[.int .i64 a, .int .i64 b, .int .i64 c, .int .i64 d]) (by simp [results, Try.results31, go_sem, d0, d1, d2, d3]) rfl ?_
  have hb := HB.out
  exact ⟨a, b, c, d, HA.out.1, HA.out.2.1, HA.out.2.2.1, HA.out.2.2.2, rfl, by go_grown⟩

set_option maxHeartbeats 1000000 in
theorem drawsquareweight_any {w : World} {a : Option Addr} {len cap : Nat} {zs : List Int} (hrow : IsRow .u8 w a len cap zs) :
    Calls Try.prog 34 #[.slice a len cap] w (SqOnePost w) := by
  have hZ := isRow_alloc hrow (.cells #[.int .i64 0, .int .i64 0, .int .i64 0, .int .i64 0] 25)
  clear hrow
  go_enter Try.func34, Try.ntmps34
  go_wp2_with fail
  refine (open_any hZ).mono ?_
  rintro e w1 ⟨g, rfl, R0⟩
  go_wp2_with fail
  refine (l20squaretable_any R0 (by omega) (by omega) (by omega)).mono ?_
  rintro e w2 ⟨a, b, c, d, ha, hb, hc, hd, rfl, R1, G1⟩
  have hbl := R1.below
  obtain ⟨d0, d1, d2, d3, e0, e1, e2, e3, lz⟩ := blk4 ((Blk.new w 25 #[.int .i64 0, .int .i64 0, .int .i64 0, .int .i64 0]).below hbl (by simp))
  have HB := Lib.hid (Below.trans ((Below.refl _ w).alloc (Nat.le_refl _) _) (hbl.mono (by simp)))
  have HA := Lib.hid (And.intro ha (And.intro hb (And.intro hc hd)))
  clear hbl R0 R1 G1 hZ ha hb hc hd
  go_wp2_with fail
  refine bodyPost_ret (v := .agg #[.int .i64 a, .int .i64 b, .int .i64 c, .int .i64 d]) (by simp [results, Try.results34, go_sem, d0, d1, d2, d3]) rfl ?_
  have hb := HB.out
  exact ⟨a, b, c, d, HA.out.1, HA.out.2.1, HA.out.2.2.1, HA.out.2.2.2, rfl, by go_grown⟩

end Go.Proofs.Ythfgfbaoeklhnaa
