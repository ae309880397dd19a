/- The drawing function of numbers to work with. No condition: contracts for the walks of the laws. -/
import Derived.Test.YtpecffijmamddaaPick
namespace Go.Proofs.Ytpecffijmamddaa
open Go.ChangeShapes Go.WideShapes Go.ChangeAt Go.RowKit


set_option maxHeartbeats 1000000 in
theorem l20work_any {w0 w : World} {g N : Nat} (R0 : Rds w0 w g N) (hN : N ≤ 999000) :
    Calls Try.prog 75 #[.pointer (some ⟨g, 0, none⟩)] w (IntPost w0 w g (N + 9) (-1152921504606846976) (1152921504606846976)) := by
  have hfin : ∀ (x : Int) (w' : World), -1152921504606846976 ≤ x → x ≤ 1152921504606846976 → Rds w0 w' g (N + 9) → w.grownBy w' (some g) → IntPost w0 w g (N + 9) (-1152921504606846976) (1152921504606846976) (.returned (.int .i64 x)) w' := fun x w' h1 h2 h3 h4 => ⟨x, h1, h2, rfl, h3, h4⟩
  have HF := Lib.hid hfin
  clear hfin
  go_enter Try.func75, Try.ntmps75
  go_wp2_with fail
  refine (pick_any R0 (by omega) (by omega) (by omega)).mono ?_
  rintro e w1 ⟨x1, hx10, hx11, rfl, R1, G1⟩
  go_wp2_with fail
  refine (pick_any R1 (by omega) (by omega) (by omega)).mono ?_
  rintro e w2 ⟨x2, hx20, hx21, rfl, R2, G2⟩
  go_wp2_with fail
  refine (pick_any R2 (by omega) (by omega) (by omega)).mono ?_
  rintro e w3 ⟨x3, hx30, hx31, rfl, R3, G3⟩
  go_wp2_with fail
  refine (pick_any R3 (by omega) (by omega) (by omega)).mono ?_
  rintro e w4 ⟨x4, hx40, hx41, rfl, R4, G4⟩
  go_wp2_with fail
  refine (pick_any R4 (by omega) (by omega) (by omega)).mono ?_
  rintro e w5 ⟨x5, hx50, hx51, rfl, R5, G5⟩
  go_wp2_with fail
  refine (pick_any R5 (by omega) (by omega) (by omega)).mono ?_
  rintro e w6 ⟨x6, hx60, hx61, rfl, R6, G6⟩
  go_wp2_with fail
  refine (pick_any R6 (by omega) (by omega) (by omega)).mono ?_
  rintro e w7 ⟨x7, hx70, hx71, rfl, R7, G7⟩
  go_wp2_with fail
  refine (pick_any ((R7.alloc _).alloc _) (by omega) (by omega) (by omega)).mono ?_
  rintro e w8 ⟨x8, hx80, hx81, rfl, R8, G8⟩
  have hlt := R7.lt
  have bA := ((Blk.new w7 _ _).alloc _).grown G8 (by intro e; injection e with e; omega)
  have bB := (Blk.new (w7.alloc _) _ _).grown G8 (by intro e; injection e with e; simp at e; omega)
  rw [World.size_alloc] at bB
  obtain ⟨v, hv0, hv1, cv⟩ := draw_cell (l := [0, 0, 1, 1, 2, 2, 3, 3, 4, 5, 6]) (lo := 0) (hi := 6) bB (by decide) hx80 (by simpa using hx81)
  obtain ⟨u, hu0, hu1, cu⟩ := draw_cell (l := [x1, x2 * 257, x3 * 1048576 + x4, x5 * 1125899906842624 + x6 * 1073741824 + x7, 1152921504606846976, 1152921504606846975, 0]) (lo := 0) (hi := 1152921504606846976) bA (by simp only [List.mem_cons, List.not_mem_nil, or_false]; rintro y hy; omega) hv0 (by simp; omega)
  have HG := Lib.hid (grownBy_trans (grownBy_alloc (grownBy_alloc (grownBy_trans (grownBy_trans (grownBy_trans (grownBy_trans (grownBy_trans (grownBy_trans G1 G2) G3) G4) G5) G6) G7) _) _) G8)
  have HR := Lib.hid R8
  clear bA bB G1 R1 G2 R2 G3 R3 G4 R4 G5 R5 G6 R6 G7 R7 G8 R8 R0
  go_wp2_with fail
  refine (pick_any HR.out (by omega) (by omega) (by omega)).mono ?_
  rintro e wz ⟨z, hz0, hz1, rfl, RZ, GZ⟩
  have HG2 := Lib.hid (grownBy_trans HG.out GZ)
  have HR2 := Lib.hid RZ
  clear GZ RZ HG HR
  by_cases hz : z = 0
  all_goals
    go_wp2
    go_ret
    exact HF.out _ _ (by omega) (by omega) (HR2.out.mono (by omega)) HG2.out

end Go.Proofs.Ytpecffijmamddaa
