/- The drawing functions of the laws on easing and mixing. No condition: contracts for the walks of the laws. -/
import Derived.Test.YthfgfbaoeklhnaaDrawA
namespace Go.Proofs.Ythfgfbaoeklhnaa
open Go.ChangeShapes Go.WideShapes Go.ChangeAt Go.RowKit


/-- What a function leaves that draws one number. -/
def OnePost (lo hi : Int) (w : World) (e : Ending) (w' : World) : Prop := ∃ x : Int, lo ≤ x ∧ x ≤ hi ∧ e = .returned (.int .i64 x) ∧ Below w.heap.size w w'

def ThreePost (w : World) (e : Ending) (w' : World) : Prop := ∃ a b s : Int, -1000000 ≤ a ∧ a ≤ 1000001 ∧ -1000000 ≤ b ∧ b ≤ 1000001 ∧ -1 ≤ s ∧ s ≤ 1025 ∧ e = .returned (.tuple #[.int .i64 a, .int .i64 b, .int .i64 s]) ∧ Below w.heap.size w w'
def FourPost (w : World) (e : Ending) (w' : World) : Prop := ∃ a b c s : Int, -1000000 ≤ a ∧ a ≤ 1000001 ∧ -1000000 ≤ b ∧ b ≤ 1000001 ∧ -1000000 ≤ c ∧ c ≤ 1000001 ∧ -1 ≤ s ∧ s ≤ 1025 ∧ e = .returned (.tuple #[.int .i64 a, .int .i64 b, .int .i64 c, .int .i64 s]) ∧ Below w.heap.size w w'
theorem results_four {fn : Func} {t u v x : Tmp} (h : fn.results = #[.tmp t, .tmp u, .tmp v, .tmp x]) (tmps : Array Value) (P : Program) (w : World) :
    (results fn tmps).run P w = .ok (.tuple #[tmps.getD t undef, tmps.getD u undef, tmps.getD v undef, tmps.getD x undef]) w := by simp [results, h]

set_option maxHeartbeats 1000000 in
theorem draweasestep_any {w : World} {a : Option Addr} {len cap : Nat} {zs : List Int} (hrow : IsRow .u8 w a len cap zs) :
    Calls Try.prog 33 #[.slice a len cap] w (OnePost (-1) 1025 w) := by
  go_enter Try.func33, Try.ntmps33
  go_wp2_with fail
  refine (open_any hrow).mono ?_
  rintro e w1 ⟨g, rfl, R0⟩
  go_wp2_with fail
  refine (l20waystep_any R0 (by omega)).mono ?_
  rintro e w2 ⟨x, h0, h1, rfl, R1, G1⟩
  go_wp2
  go_ret
  exact ⟨x, h0, h1, rfl, R1.below⟩

set_option maxHeartbeats 1000000 in
theorem drawmixnumbers_any {w : World} {a : Option Addr} {len cap : Nat} {zs : List Int} (hrow : IsRow .u8 w a len cap zs) :
    Calls Try.prog 38 #[.slice a len cap] w (ThreePost w) := by
  go_enter Try.func38, Try.ntmps38
  go_wp2_with fail
  refine (open_any hrow).mono ?_
  rintro e w1 ⟨g, rfl, R0⟩
  go_wp2_with fail
  refine (l20end_any R0 (by omega)).mono ?_
  rintro e w2 ⟨x, hx0, hx1, rfl, R1, G1⟩
  go_wp2_with fail
  refine (l20end_any R1 (by omega)).mono ?_
  rintro e w3 ⟨y, hy0, hy1, rfl, R2, G2⟩
  go_wp2_with fail
  refine (l20waystep_any R2 (by omega)).mono ?_
  rintro e w4 ⟨s, hs0, hs1, rfl, R3, G3⟩
  go_wp2
  go_ret3
  exact ⟨x, y, s, hx0, hx1, hy0, hy1, hs0, hs1, rfl, R3.below⟩

set_option maxHeartbeats 1000000 in
theorem drawcurvepoint_any {w : World} {a : Option Addr} {len cap : Nat} {zs : List Int} (hrow : IsRow .u8 w a len cap zs) :
    Calls Try.prog 39 #[.slice a len cap] w (FourPost w) := by
  go_enter Try.func39, Try.ntmps39
  go_wp2_with fail
  refine (open_any hrow).mono ?_
  rintro e w1 ⟨g, rfl, R0⟩
  go_wp2_with fail
  refine (l20end_any R0 (by omega)).mono ?_
  rintro e w2 ⟨x, hx0, hx1, rfl, R1, G1⟩
  go_wp2_with fail
  refine (l20end_any R1 (by omega)).mono ?_
  rintro e w3 ⟨y, hy0, hy1, rfl, R2, G2⟩
  go_wp2_with fail
  refine (l20end_any R2 (by omega)).mono ?_
  rintro e w4 ⟨z, hz0, hz1, rfl, R3, G3⟩
  go_wp2_with fail
  refine (l20waystep_any R3 (by omega)).mono ?_
  rintro e w5 ⟨s, hs0, hs1, rfl, R4, G4⟩
  go_wp2
  refine bodyPost_ret (results_four rfl _ _ _) rfl ?_
  exact ⟨x, y, z, s, hx0, hx1, hy0, hy1, hz0, hz1, hs0, hs1, rfl, R4.below⟩

end Go.Proofs.Ythfgfbaoeklhnaa
