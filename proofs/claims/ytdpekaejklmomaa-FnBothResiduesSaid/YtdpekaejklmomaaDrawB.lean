/- The drawing function of the law on both residues. No condition: contracts for the walks of the laws. -/
import Derived.Test.YtdpekaejklmomaaPick
import Derived.Test.YtdpekaejklmomaaModB
namespace Go.Proofs.Ytdpekaejklmomaa
open Go.ChangeShapes Go.WideShapes Go.ChangeAt Go.RowKit


def FourBPost (w : World) (e : Ending) (w' : World) : Prop := ∃ a m b n : Int, 0 ≤ a ∧ a ≤ 3000 ∧ 0 ≤ m ∧ m ≤ 1001 ∧ -1 ≤ b ∧ b ≤ 40 ∧ 1 ≤ n ∧ n ≤ 40 ∧ e = .returned (.tuple #[.int .i64 a, .int .i64 m, .int .i64 b, .int .i64 n]) ∧ Below w.heap.size w w'
theorem results_four {fn : Func} {t u v x : Tmp} (h : fn.results = #[.tmp t, .tmp u, .tmp v, .tmp x]) (tmps : Array Value) (P : Program) (w : World) :
    (results fn tmps).run P w = .ok (.tuple #[tmps.getD t undef, tmps.getD u undef, tmps.getD v undef, tmps.getD x undef]) w := by simp [results, h]
theorem quart {x m M : Int} (h0 : 0 ≤ x) (h1 : x < 14) (hm : 0 ≤ m) (hM : m ≤ M) : 0 ≤ x / 13 ∧ x / 13 ≤ 1 ∧ 0 ≤ x / 13 * m ∧ x / 13 * m ≤ M := by
  rcases (by omega : x / 13 = 0 ∨ x / 13 = 1) with h | h <;> rw [h] <;> omega

set_option maxHeartbeats 1000000 in
theorem drawbothresidues_any {w : World} {a : Option Addr} {len cap : Nat} {zs : List Int} (hrow : IsRow .u8 w a len cap zs) :
    Calls Try.prog 25 #[.slice a len cap] w (FourBPost w) := by
  go_enter Try.func25, Try.ntmps25
  go_wp2_with fail
  refine (open_any hrow).mono ?_
  rintro e w0 ⟨g, rfl, R0⟩
  go_wp2_with fail
  refine (pick_any R0 (by omega) (by omega) (by omega)).mono ?_
  rintro e w1 ⟨x1, hx10, hx11, rfl, R1, G1⟩
  go_wp2_with fail
  refine (pick_any R1 (by omega) (by omega) (by omega)).mono ?_
  rintro e w2 ⟨x2, hx20, hx21, rfl, R2, G2⟩
  go_wp2_with fail
  refine (odd_any R2 (by omega) (by omega) (by omega)).mono ?_
  rintro e w3 ⟨bo, rfl, R3, G3⟩
  cases bo
  · rcases (by omega : x1 = 0 ∨ 1 ≤ x1) with hx1 | hx1
    all_goals
      skip
      go_wp2_with fail
      refine (pick_any R3 (by omega) (by omega) (by omega)).mono ?_
      rintro e w4 ⟨x4, hx40, hx41, rfl, R4, G4⟩
      go_wp2_with fail
      refine (pick_any R4 (by omega) (by omega) (by omega)).mono ?_
      rintro e w5 ⟨x5, hx50, hx51, rfl, R5, G5⟩
      obtain ⟨q1, q2, q3, q4⟩ := quart (m := 1 + x1) (M := 1001) hx50 hx51 (by omega) (by omega)
      go_wp2_with fail
      refine (pick_any R5 (by omega) (by omega) (by omega)).mono ?_
      rintro e w6 ⟨x6, hx60, hx61, rfl, R6, G6⟩
      go_wp2_with fail
      refine (pick_any R6 (by omega) (by omega) (by omega)).mono ?_
      rintro e w7 ⟨x7, hx70, hx71, rfl, R7, G7⟩
      obtain ⟨q5, q6, -, -⟩ := quart (m := 1) (M := 1) hx70 hx71 (by omega) (by omega)
      have HR := Lib.hid R7
      clear R0 R1 R2 R3 R4 R5 R6 R7 G1 G2 G3 G4 G5 G6 G7 hrow
      go_wp2
      refine bodyPost_ret (results_four rfl _ _ _) rfl ?_
      refine ⟨_, _, _, _, ?_, ?_, ?_, ?_, ?_, ?_, ?_, ?_, rfl, HR.out.below⟩ <;> omega
  · go_wp2_with fail
    refine (pick_any (R3.alloc _) (by omega) (by omega) (by omega)).mono ?_
    rintro e w8 ⟨x8, hx80, hx81, rfl, R8, G8⟩
    have bA := (Blk.new w3 _ _).grown G8 (by have := R3.lt; intro e; injection e with e; omega)
    obtain ⟨v, hv, cv⟩ : ∃ v : Int, (v = 0 ∨ v = 1001 ∨ v = 1000) ∧ w8.cell? ⟨w3.heap.size, x8.toNat, none⟩ = some (.int .i64 v) := by
      rcases (by omega : x8 = 0 ∨ x8 = 1 ∨ x8 = 2) with rfl | rfl | rfl
      · exact ⟨0, .inl rfl, bA.cell 0⟩
      · exact ⟨1001, .inr (.inl rfl), bA.cell 1⟩
      · exact ⟨1000, .inr (.inr rfl), bA.cell 2⟩
    clear bA
    rcases hv with rfl | rfl | rfl
    all_goals
      skip
      go_wp2_with fail
      refine (pick_any R8 (by omega) (by omega) (by omega)).mono ?_
      rintro e w4 ⟨x4, hx40, hx41, rfl, R4, G4⟩
      go_wp2_with fail
      refine (pick_any R4 (by omega) (by omega) (by omega)).mono ?_
      rintro e w5 ⟨x5, hx50, hx51, rfl, R5, G5⟩
      have qq := hx51
      obtain ⟨q1, q2, -, -⟩ := quart (m := 1) (M := 1) hx50 hx51 (by omega) (by omega)
      go_wp2_with fail
      refine (pick_any R5 (by omega) (by omega) (by omega)).mono ?_
      rintro e w6 ⟨x6, hx60, hx61, rfl, R6, G6⟩
      go_wp2_with fail
      refine (pick_any R6 (by omega) (by omega) (by omega)).mono ?_
      rintro e w7 ⟨x7, hx70, hx71, rfl, R7, G7⟩
      obtain ⟨q5, q6, -, -⟩ := quart (m := 1) (M := 1) hx70 hx71 (by omega) (by omega)
      have HR := Lib.hid R7
      clear R0 R1 R2 R3 R4 R5 R6 R7 G1 G2 G3 G4 G5 G6 G7 hrow R8 G8
      go_wp2
      refine bodyPost_ret (results_four rfl _ _ _) rfl ?_
      refine ⟨_, _, _, _, ?_, ?_, ?_, ?_, ?_, ?_, ?_, ?_, rfl, HR.out.below⟩ <;> omega

end Go.Proofs.Ytdpekaejklmomaa
