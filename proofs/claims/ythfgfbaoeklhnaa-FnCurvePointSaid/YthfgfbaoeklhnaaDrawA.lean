/- The drawing functions of easing and mixing. No condition: contracts for the walks of the laws. -/
import Derived.Test.YthfgfbaoeklhnaaPick
namespace Go.Proofs.Ythfgfbaoeklhnaa
open Go.ChangeShapes Go.WideShapes Go.ChangeAt Go.RowKit


set_option maxHeartbeats 1000000 in
theorem l20waystep_any {w0 w : World} {g N : Nat} (R0 : Rds w0 w g N) (hN : N ≤ 999000) :
    Calls Try.prog 49 #[.pointer (some ⟨g, 0, none⟩)] w (IntPost w0 w g (N + 3) (-1) (1025)) := by
  have hfin : ∀ (x : Int) (w' : World), -1 ≤ x → x ≤ 1025 → Rds w0 w' g (N + 3) → w.grownBy w' (some g) → IntPost w0 w g (N + 3) (-1) (1025) (.returned (.int .i64 x)) w' := fun x w' h1 h2 h3 h4 => ⟨x, h1, h2, rfl, h3, h4⟩
  have HF := Lib.hid hfin
  clear hfin
  go_enter Try.func49, Try.ntmps49
  go_wp2_with fail
  refine (pick_any R0 (by omega) (by omega) (by omega)).mono ?_
  rintro e w1 ⟨x1, hx10, hx11, rfl, R1, G1⟩
  go_wp2_with fail
  refine (pick_any R1 (by omega) (by omega) (by omega)).mono ?_
  rintro e w2 ⟨x2, hx20, hx21, rfl, R2, G2⟩
  go_wp2_with fail
  refine (pick_any ((R2.alloc _).alloc _) (by omega) (by omega) (by omega)).mono ?_
  rintro e w3 ⟨x3, hx30, hx31, rfl, R3, G3⟩
  have hlt := R2.lt
  have bA := ((Blk.new w2 _ _).alloc _).grown G3 (by intro e; injection e with e; omega)
  have bB := (Blk.new (w2.alloc _) _ _).grown G3 (by intro e; injection e with e; simp at e; omega)
  rw [World.size_alloc] at bB
  obtain ⟨v, hv0, hv1, cv⟩ := draw_cell (l := [0, 0, 0, 1, 2, 3, 4, 5]) (lo := 0) (hi := 5) bB (by decide) hx30 (by simpa using hx31)
  obtain ⟨u, hu0, hu1, cu⟩ := draw_cell (l := [x1 * 4, x2, 0, 1024, 1025, -1]) (lo := -1) (hi := 1025) bA (by simp only [List.mem_cons, List.not_mem_nil, or_false]; rintro y hy; omega) hv0 (by simp; omega)
  have HG := Lib.hid (grownBy_trans (grownBy_alloc (grownBy_alloc (grownBy_trans G1 G2) _) _) G3)
  have HR := Lib.hid R3
  clear bA bB G1 R1 G2 R2 G3 R3 R0
  go_wp2
  go_ret
  exact HF.out _ _ hu0 hu1 (HR.out.mono (by omega)) HG.out

set_option maxHeartbeats 1000000 in
theorem l20end_any {w0 w : World} {g N : Nat} (R0 : Rds w0 w g N) (hN : N ≤ 999000) :
    Calls Try.prog 50 #[.pointer (some ⟨g, 0, none⟩)] w (IntPost w0 w g (N + 3) (-1000000) (1000001)) := by
  have hfin : ∀ (x : Int) (w' : World), -1000000 ≤ x → x ≤ 1000001 → Rds w0 w' g (N + 3) → w.grownBy w' (some g) → IntPost w0 w g (N + 3) (-1000000) (1000001) (.returned (.int .i64 x)) w' := fun x w' h1 h2 h3 h4 => ⟨x, h1, h2, rfl, h3, h4⟩
  have HF := Lib.hid hfin
  clear hfin
  go_enter Try.func50, Try.ntmps50
  go_wp2_with fail
  refine (pick_any R0 (by omega) (by omega) (by omega)).mono ?_
  rintro e w1 ⟨x1, hx10, hx11, rfl, R1, G1⟩
  go_wp2_with fail
  refine (pick_any R1 (by omega) (by omega) (by omega)).mono ?_
  rintro e w2 ⟨x2, hx20, hx21, rfl, R2, G2⟩
  go_wp2_with fail
  refine (pick_any ((R2.alloc _).alloc _) (by omega) (by omega) (by omega)).mono ?_
  rintro e w3 ⟨x3, hx30, hx31, rfl, R3, G3⟩
  have hlt := R2.lt
  have bA := ((Blk.new w2 _ _).alloc _).grown G3 (by intro e; injection e with e; omega)
  have bB := (Blk.new (w2.alloc _) _ _).grown G3 (by intro e; injection e with e; simp at e; omega)
  rw [World.size_alloc] at bB
  obtain ⟨v, hv0, hv1, cv⟩ := draw_cell (l := [0, 0, 0, 0, 1, 1, 2, 3, 4]) (lo := 0) (hi := 4) bB (by decide) hx30 (by simpa using hx31)
  obtain ⟨u, hu0, hu1, cu⟩ := draw_cell (l := [x1 - 100, (x2 - 128) * 7800, 1000000, -1000000, 1000001]) (lo := -1000000) (hi := 1000001) bA (by simp only [List.mem_cons, List.not_mem_nil, or_false]; rintro y hy; omega) hv0 (by simp; omega)
  have HG := Lib.hid (grownBy_trans (grownBy_alloc (grownBy_alloc (grownBy_trans G1 G2) _) _) G3)
  have HR := Lib.hid R3
  clear bA bB G1 R1 G2 R2 G3 R3 R0
  go_wp2
  go_ret
  exact HF.out _ _ hu0 hu1 (HR.out.mono (by omega)) HG.out

end Go.Proofs.Ythfgfbaoeklhnaa
