/- Drawn calculators. No condition: contracts for the walks of the laws. -/
import Derived.Test.YtldhmlohkhmaaaaDrawSt
import Derived.Test.YtldhmlohkhmaaaaCalv
namespace Go.Proofs.Ytldhmlohkhmaaaa
open Go.ChangeShapes Go.WideShapes Go.ChangeAt Go.RowKit

/-- A drawn calculator. -/
def CaPost (w0 w : World) (g N : Nat) (e : Ending) (w' : World) : Prop := ∃ (p q s : Int) (b : Bool), (-1 ≤ p ∧ p ≤ 17) ∧ (-1 ≤ q ∧ q ≤ 17) ∧ (-268435457 ≤ s ∧ s ≤ 9223372036854775807) ∧ e = .returned (.agg #[.int .i64 p, .int .i64 q, .int .i64 s, .bool b]) ∧ Rds w0 w' g N ∧ w.grownBy w' (some g)
set_option maxHeartbeats 4000000 in
theorem l20calculator_any {w0 w : World} {g N : Nat} {n : Int} (R0 : Rds w0 w g N) (hN : N ≤ 980000) (hn0 : 0 ≤ n) (hn1 : n ≤ 1000) :
    Calls Try.prog 14 #[.pointer (some ⟨g, 0, none⟩), .int .i64 n] w (CaPost w0 w g (N + 40)) := by
  have hlt := R0.lt
  have hb0 := R0.below.size
  go_enter Try.func14, Try.ntmps14
  go_wp2_with fail
  refine (l20format_any (R0.alloc _) (by omega) hn0 hn1).mono ?_
  rintro e w1 ⟨p, q, p0, p1, q0, q1, rfl, R1, G1⟩
  have s1 := G1.size
  rw [World.size_alloc] at s1
  have bz := ((Blk.new w 29 #[.int .i64 0, .int .i64 0, .int .i64 0, .bool false]).grown G1 (by intro e; injection e with e; first | omega | (simp at e; omega))).alloc (.cells #[.int .i64 p, .int .i64 q] 27)
  have bf := Blk.new w1 27 #[.int .i64 p, .int .i64 q]
  have GW := grownBy_alloc (grownBy_trans (grownBy_alloc (grown_refl w (some g)) (.cells #[.int .i64 0, .int .i64 0, .int .i64 0, .bool false] 29)) G1) (.cells #[.int .i64 p, .int .i64 q] 27)
  have RW := R1.alloc (.cells #[.int .i64 p, .int .i64 q] 27)
  go_wp2_with fail
  obtain ⟨c0, c1, c2, c3, lf⟩ := blk2 bf
  obtain ⟨d0, d1, d2, d3, e0, e1, e2, e3, lz⟩ := blk4 bz
  generalize w1.alloc (.cells #[.int .i64 p, .int .i64 q] 27) = W at *
  have HRW := Lib.hid RW.drew
  have HBF := Lib.hid bf.drew
  have HBZ := Lib.hid bz.drew
  have HGW := Lib.hid (show w.grownBy W.drew (some g) from ⟨GW.os, GW.tape, GW.output, GW.size, GW.block⟩)
  clear RW bf bz GW R1 G1 R0
  have n1 : ¬ w.heap.size = w1.heap.size := by omega
  have n2 : ¬ w1.heap.size = w.heap.size := by omega
  have HDN := Lib.hid (fun (w6 : World) (s : Int) (b : Bool) (R6 : Rds w0 w6 g (N + 7 + 24 + 1)) (G6 : w.grownBy w6 (some g)) (bz : Blk w6 w.heap.size 29 #[.int .i64 0, .int .i64 0, .int .i64 0, .bool false]) =>
    (show (Rds w0 ((((w6.setCell ⟨w.heap.size, 0, none⟩ (.int .i64 p)).setCell ⟨w.heap.size, 1, none⟩ (.int .i64 q)).setCell ⟨w.heap.size, 2, none⟩ (.int .i64 s)).setCell ⟨w.heap.size, 3, none⟩ (.bool b)) g (N + 7 + 24 + 1)) ∧ (w.grownBy ((((w6.setCell ⟨w.heap.size, 0, none⟩ (.int .i64 p)).setCell ⟨w.heap.size, 1, none⟩ (.int .i64 q)).setCell ⟨w.heap.size, 2, none⟩ (.int .i64 s)).setCell ⟨w.heap.size, 3, none⟩ (.bool b)) (some g)) ∧ (Blk ((((w6.setCell ⟨w.heap.size, 0, none⟩ (.int .i64 p)).setCell ⟨w.heap.size, 1, none⟩ (.int .i64 q)).setCell ⟨w.heap.size, 2, none⟩ (.int .i64 s)).setCell ⟨w.heap.size, 3, none⟩ (.bool b)) w.heap.size 29 #[.int .i64 p, .int .i64 q, .int .i64 s, .bool b]) from
      ⟨(((R6.setCell (q := ⟨w.heap.size, 0, none⟩) (by dsimp only; omega) (by dsimp only; omega) _).setCell (q := ⟨w.heap.size, 1, none⟩) (by dsimp only; omega) (by dsimp only; omega) _).setCell (q := ⟨w.heap.size, 2, none⟩) (by dsimp only; omega) (by dsimp only; omega) _).setCell (q := ⟨w.heap.size, 3, none⟩) (by dsimp only; omega) (by dsimp only; omega) _,
       grownBy_setCell (grownBy_setCell (grownBy_setCell (grownBy_setCell G6 (p := ⟨w.heap.size, 0, none⟩) (Nat.le_refl _) _) (p := ⟨w.heap.size, 1, none⟩) (Nat.le_refl _) _) (p := ⟨w.heap.size, 2, none⟩) (Nat.le_refl _) _) (p := ⟨w.heap.size, 3, none⟩) (Nat.le_refl _) _,
       (((bz.set 0 (.int .i64 p)).set 1 (.int .i64 q)).set 2 (.int .i64 s)).set 3 (.bool b)⟩))
  go_region_with (first
    | (go_at_call 23; (with_reducible refine Calls.mono (l20stored_any HRW.out (by omega) hn0 hn1) ?_); rintro e w5 ⟨s, s0, s1', rfl, R5, G5⟩; have bf5 := HBF.out.grown G5 (by intro e; injection e with e; first | omega | (simp at e; omega)); obtain ⟨c0, c1, c2, c3, lf⟩ := blk2 bf5; have bz5 := HBZ.out.grown G5 (by intro e; injection e with e; first | omega | (simp at e; omega)); obtain ⟨d0, d1, d2, d3, e0, e1, e2, e3, lz⟩ := blk4 bz5; have HBF5 := Lib.hid bf5; have HBZ5 := Lib.hid bz5; have HR5 := Lib.hid R5; have HG5 := Lib.hid (grownBy_trans HGW.out G5); clear bf5 bz5 R5 G5)
    | (go_at_call 24; (with_reducible refine Calls.mono (pick_any HR5.out (by omega) (by omega) (by omega)) ?_); rintro e w6 ⟨y, y0, y1, rfl, R6, G6⟩; have bf6 := HBF5.out.grown G6 (by intro e; injection e with e; first | omega | (simp at e; omega)); obtain ⟨c0, c1, c2, c3, lf⟩ := blk2 bf6; have bz6 := HBZ5.out.grown G6 (by intro e; injection e with e; first | omega | (simp at e; omega)); obtain ⟨d0, d1, d2, d3, e0, e1, e2, e3, lz⟩ := blk4 bz6; have HBZ6 := Lib.hid bz6; have HR6 := Lib.hid R6; have HG6 := Lib.hid (grownBy_trans HG5.out G6); clear bf6 bz6 R6 G6))
  all_goals
    obtain ⟨z1, z2, z3⟩ := HDN.out _ s (y == 0) HR6.out HG6.out HBZ6.out
    obtain ⟨k0, k1, k2, k3, -, -, -, -, -⟩ := blk4 z3
    have Z1 := Lib.hid z1
    have Z2 := Lib.hid z2
    clear z1 z2 z3
    go_wp2_with fail
    refine bodyPost_ret (v := .agg #[.int .i64 p, .int .i64 q, .int .i64 s, .bool (y == 0)]) (by simp [results, Try.results14, go_sem, k0, k1, k2, k3]) rfl ?_
    exact ⟨p, q, s, y == 0, ⟨p0, p1⟩, ⟨q0, q1⟩, ⟨s0, s1'⟩, rfl, Z1.out.mono (by omega), Z2.out⟩

end Go.Proofs.Ytldhmlohkhmaaaa
