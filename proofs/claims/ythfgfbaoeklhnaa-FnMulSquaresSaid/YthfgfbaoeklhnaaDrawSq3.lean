/- The drawing functions of the laws on products and powers of square tables. No condition: contracts for the walks of the laws. -/
import Derived.Test.YthfgfbaoeklhnaaDrawSq2
namespace Go.Proofs.Ythfgfbaoeklhnaa
open Go.ChangeShapes Go.WideShapes Go.ChangeAt Go.RowKit


def SqTwoPost (w : World) (en : Ending) (w' : World) : Prop := ∃ a b c d e f g h : Int, en = .returned (.tuple #[.agg #[.int .i64 a, .int .i64 b, .int .i64 c, .int .i64 d], .agg #[.int .i64 e, .int .i64 f, .int .i64 g, .int .i64 h]]) ∧ Below w.heap.size w w'
attribute [local go_sem ↓] Go.wp_at_zero Go.wp_at_succ
set_option maxHeartbeats 8000000 in
theorem drawmulsquares_any {w : World} {a : Option Addr} {len cap : Nat} {zs : List Int} (hrow : IsRow .u8 w a len cap zs) :
    Calls Try.prog 37 #[.slice a len cap] w (SqTwoPost w) := by
  have hB2 : Below w.heap.size w ((w.alloc (.cells #[.int .i64 0, .int .i64 0, .int .i64 0, .int .i64 0] 25)).alloc (.cells #[.int .i64 0, .int .i64 0, .int .i64 0, .int .i64 0] 25)) := ((Below.refl _ w).alloc (Nat.le_refl _) _).alloc (by simp) _
  go_enter Try.func37, Try.ntmps37
  go_wp2_with fail
  refine (open_base hB2 hrow).mono ?_
  rintro e w1 ⟨rfl, R0, hb1⟩
  rw [World.size_alloc, World.size_alloc] at R0
  go_wp2_with fail
  refine (l20squaretable_any R0 (by omega) (by omega) (by omega)).mono ?_
  rintro e w2 ⟨a, b, c, d, ha, hb, hc, hd, rfl, R1, G1⟩
  have hg2 := R1.lt
  have bz0 := ((((Blk.new w 25 #[.int .i64 0, .int .i64 0, .int .i64 0, .int .i64 0]).alloc (.cells #[.int .i64 0, .int .i64 0, .int .i64 0, .int .i64 0] 25)).below hb1 (by simp; omega)).grown G1 (by intro e; injection e with e; omega)).alloc (.cells #[.int .i64 a, .int .i64 b, .int .i64 c, .int .i64 d] 25)
  have bz1 := (((Blk.newAt (w := w.alloc (.cells #[.int .i64 0, .int .i64 0, .int .i64 0, .int .i64 0] 25)) (g := w.heap.size + 1) (t := 25) (cs := #[.int .i64 0, .int .i64 0, .int .i64 0, .int .i64 0]) (by simp)).below hb1 (by simp)).grown G1 (by intro e; injection e with e; omega)).alloc (.cells #[.int .i64 a, .int .i64 b, .int .i64 c, .int .i64 d] 25)
  have bs := Blk.new w2 25 #[.int .i64 a, .int .i64 b, .int .i64 c, .int .i64 d]
  have R2 := R1.alloc (.cells #[.int .i64 a, .int .i64 b, .int .i64 c, .int .i64 d] 25)
  have q0 : ¬ w.heap.size = w2.heap.size := by omega
  have q0' : ¬ w2.heap.size = w.heap.size := by omega
  have q1 : ¬ w.heap.size + 1 = w2.heap.size := by omega
  have q1' : ¬ w2.heap.size = w.heap.size + 1 := by omega
  have hwg : ¬ w.heap.size + 1 + 1 = w.heap.size := by omega
  go_wp2_with fail
  generalize w2.alloc (.cells #[.int .i64 a, .int .i64 b, .int .i64 c, .int .i64 d] 25) = W at *
  obtain ⟨c0, c1, c2, c3, -, -, -, -, ls⟩ := blk4 bs
  have V1 := fun (u0 u1 u2 u3 : Value) => Lib.hid (((((bz0.set 0 u0).set 1 u1).set 2 u2).set 3 u3).drew)
  have V2 := fun (u0 u1 u2 u3 : Value) => Lib.hid (((((bz1.far (p := ⟨w.heap.size, 0, none⟩) (by dsimp only; omega) u0).far (p := ⟨w.heap.size, 1, none⟩) (by dsimp only; omega) u1).far (p := ⟨w.heap.size, 2, none⟩) (by dsimp only; omega) u2).far (p := ⟨w.heap.size, 3, none⟩) (by dsimp only; omega) u3).drew)
  have V3 := fun (u0 u1 u2 u3 : Value) => Lib.hid (((((bs.far (p := ⟨w.heap.size, 0, none⟩) (by dsimp only; omega) u0).far (p := ⟨w.heap.size, 1, none⟩) (by dsimp only; omega) u1).far (p := ⟨w.heap.size, 2, none⟩) (by dsimp only; omega) u2).far (p := ⟨w.heap.size, 3, none⟩) (by dsimp only; omega) u3).drew)
  have V4 := fun (u0 u1 u2 u3 : Value) => Lib.hid (((((R2.setCell (q := ⟨w.heap.size, 0, none⟩) (Nat.le_refl _) hwg u0).setCell (q := ⟨w.heap.size, 1, none⟩) (Nat.le_refl _) hwg u1).setCell (q := ⟨w.heap.size, 2, none⟩) (Nat.le_refl _) hwg u2).setCell (q := ⟨w.heap.size, 3, none⟩) (Nat.le_refl _) hwg u3).drew)
  have RR2 := V4 (.int .i64 a) (.int .i64 b) (.int .i64 c) (.int .i64 d)
  have BS2 := V3 (.int .i64 a) (.int .i64 b) (.int .i64 c) (.int .i64 d)
  have BZ02 := V1 (.int .i64 a) (.int .i64 b) (.int .i64 c) (.int .i64 d)
  have BZ12 := V2 (.int .i64 a) (.int .i64 b) (.int .i64 c) (.int .i64 d)
  have RR := Lib.hid R2.drew
  have BS := Lib.hid bs.drew
  have BZ0 := Lib.hid bz0.drew
  have BZ1 := Lib.hid bz1.drew
  clear R0 R1 R2 G1 hb1 bs bz0 bz1 ha hb hc hd V1 V2 V3 V4
  go_region_with
    (first | (go_at_call 46; (with_reducible refine (l20squaretable_any RR.out (by omega) (by omega) (by omega)).mono ?_); rintro e w3 ⟨a', b', c', d', -, -, -, -, rfl, R3, G3⟩; have bs := BS.out.grown G3 (by intro e; injection e with e; omega); obtain ⟨c0, c1, c2, c3, -, -, -, -, ls⟩ := blk4 bs; have bz0 := BZ0.out.grown G3 (by intro e; injection e with e; omega); obtain ⟨d0, d1, d2, d3, e0, e1, e2, e3, lz0⟩ := blk4 bz0; have bz1 := BZ1.out.grown G3 (by intro e; injection e with e; omega); obtain ⟨d10, d11, d12, d13, e10, e11, e12, e13, lz1⟩ := blk4 bz1; have R4 := Lib.hid R3; clear bs bz0 bz1 G3 R3) | (go_at_call 46; (with_reducible refine (l20squaretable_any RR2.out (by omega) (by omega) (by omega)).mono ?_); rintro e w3 ⟨a', b', c', d', -, -, -, -, rfl, R3, G3⟩; have bs := BS2.out.grown G3 (by intro e; injection e with e; omega); obtain ⟨c0, c1, c2, c3, -, -, -, -, ls⟩ := blk4 bs; have bz0 := BZ02.out.grown G3 (by intro e; injection e with e; omega); obtain ⟨d0, d1, d2, d3, e0, e1, e2, e3, lz0⟩ := blk4 bz0; have bz1 := BZ12.out.grown G3 (by intro e; injection e with e; omega); obtain ⟨d10, d11, d12, d13, e10, e11, e12, e13, lz1⟩ := blk4 bz1; have R4 := Lib.hid R3; clear bs bz0 bz1 G3 R3))
  all_goals
    go_wp2_with fail
    refine bodyPost_ret (v := .tuple #[.agg #[.int .i64 a, .int .i64 b, .int .i64 c, .int .i64 d], .agg #[.int .i64 a', .int .i64 b', .int .i64 c', .int .i64 d']]) (by simp [results, Try.results37, go_sem, d0, d1, d2, d3, d10, d11, d12, d13]) rfl ?_
    have hb := R4.out.below
    have := hb.size
    exact ⟨a, b, c, d, a', b', c', d', rfl, by go_grown⟩

end Go.Proofs.Ythfgfbaoeklhnaa
