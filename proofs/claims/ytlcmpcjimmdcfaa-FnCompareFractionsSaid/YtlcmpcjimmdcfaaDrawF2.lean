/- The drawing functions of the laws on fractions. No condition: contracts for the walks of the laws. -/
import Derived.Test.YtlcmpcjimmdcfaaDrawF
namespace Go.Proofs.Ytlcmpcjimmdcfaa
open Go.ChangeShapes Go.WideShapes Go.ChangeAt Go.RowKit


def FrOnePost (w : World) (e : Ending) (w' : World) : Prop := ∃ a b : Int, (-1000001 ≤ a ∧ a ≤ 1000001 ∧ -1000001 ≤ b ∧ b ≤ 1000001) ∧ e = .returned (.agg #[.int .i64 a, .int .i64 b]) ∧ Below w.heap.size w w'
set_option maxHeartbeats 1000000 in
theorem drawfractionvalid_any {w : World} {a : Option Addr} {len cap : Nat} {zs : List Int} (hrow : IsRow .u8 w a len cap zs) :
    Calls Try.prog 22 #[.slice a len cap] w (FrOnePost w) := by
  have hZ := isRow_alloc hrow (.cells #[.int .i64 0, .int .i64 0] 32)
  clear hrow
  go_enter Try.func22, Try.ntmps22
  go_wp2_with fail
  refine (open_any hZ).mono ?_
  rintro e w1 ⟨g, rfl, R0⟩
  go_wp2_with fail
  refine (l20fraction_any R0 (by omega) (by omega) (by omega)).mono ?_
  rintro e w2 ⟨a, b, hA, rfl, R1, G1⟩
  have hbl := R1.below
  obtain ⟨d0, d1, e0, e1, lz⟩ := blk2 ((Blk.new w 32 #[.int .i64 0, .int .i64 0]).below hbl (by simp))
  have HB := Lib.hid (Below.trans ((Below.refl _ w).alloc (Nat.le_refl _) _) (hbl.mono (by simp)))
  have HA := Lib.hid hA
  clear hbl R0 R1 G1 hZ hA
  go_wp2_with fail
  refine bodyPost_ret (v := .agg #[.int .i64 a, .int .i64 b]) (by simp [results, Try.results22, go_sem, d0, d1]) rfl ?_
  have hb := HB.out
  exact ⟨a, b, HA.out, rfl, by go_grown⟩
def FrTwoPost (w : World) (en : Ending) (w' : World) : Prop := ∃ a b c d : Int, (-1000001 ≤ a ∧ a ≤ 1000001 ∧ -1000001 ≤ b ∧ b ≤ 1000001) ∧ (-1000001 ≤ c ∧ c ≤ 1000001 ∧ -1000001 ≤ d ∧ d ≤ 1000001) ∧ en = .returned (.tuple #[.agg #[.int .i64 a, .int .i64 b], .agg #[.int .i64 c, .int .i64 d]]) ∧ Below w.heap.size w w'
section
attribute [local go_sem ↓] Go.wp_at_zero Go.wp_at_succ
set_option maxHeartbeats 8000000 in
theorem drawaddfractions_any {w : World} {a : Option Addr} {len cap : Nat} {zs : List Int} (hrow : IsRow .u8 w a len cap zs) :
    Calls Try.prog 29 #[.slice a len cap] w (FrTwoPost w) := by
  have hB2 : Below w.heap.size w ((w.alloc (.cells #[.int .i64 0, .int .i64 0] 32)).alloc (.cells #[.int .i64 0, .int .i64 0] 32)) := ((Below.refl _ w).alloc (Nat.le_refl _) _).alloc (by simp) _
  go_enter Try.func29, Try.ntmps29
  go_wp2_with fail
  refine (open_base hB2 hrow).mono ?_
  rintro e w1 ⟨rfl, R0, hb1⟩
  rw [World.size_alloc, World.size_alloc] at R0
  go_wp2_with fail
  refine (l20fraction_any R0 (by omega) (by omega) (by omega)).mono ?_
  rintro e w2 ⟨a, b, hA, rfl, R1, G1⟩
  have hg2 := R1.lt
  have bz0 := ((((Blk.new w 32 #[.int .i64 0, .int .i64 0]).alloc (.cells #[.int .i64 0, .int .i64 0] 32)).below hb1 (by simp; omega)).grown G1 (by intro e; injection e with e; omega)).alloc (.cells #[.int .i64 a, .int .i64 b] 32)
  have bz1 := (((Blk.newAt (w := w.alloc (.cells #[.int .i64 0, .int .i64 0] 32)) (g := w.heap.size + 1) (t := 32) (cs := #[.int .i64 0, .int .i64 0]) (by simp)).below hb1 (by simp)).grown G1 (by intro e; injection e with e; omega)).alloc (.cells #[.int .i64 a, .int .i64 b] 32)
  have bs := Blk.new w2 32 #[.int .i64 a, .int .i64 b]
  have R2 := R1.alloc (.cells #[.int .i64 a, .int .i64 b] 32)
  have q0 : ¬ w.heap.size = w2.heap.size := by omega
  have q0' : ¬ w2.heap.size = w.heap.size := by omega
  have q1 : ¬ w.heap.size + 1 = w2.heap.size := by omega
  have q1' : ¬ w2.heap.size = w.heap.size + 1 := by omega
  have hwg : ¬ w.heap.size + 1 + 1 = w.heap.size := by omega
  have HA := Lib.hid hA
  go_wp2_with fail
  generalize w2.alloc (.cells #[.int .i64 a, .int .i64 b] 32) = W at *
  obtain ⟨c0, c1, -, -, ls⟩ := blk2 bs
  have V1 := fun (u0 u1 : Value) => Lib.hid (((bz0.set 0 u0).set 1 u1).drew)
  have V2 := fun (u0 u1 : Value) => Lib.hid (((bz1.far (p := ⟨w.heap.size, 0, none⟩) (by dsimp only; omega) u0).far (p := ⟨w.heap.size, 1, none⟩) (by dsimp only; omega) u1).drew)
  have V3 := fun (u0 u1 : Value) => Lib.hid (((bs.far (p := ⟨w.heap.size, 0, none⟩) (by dsimp only; omega) u0).far (p := ⟨w.heap.size, 1, none⟩) (by dsimp only; omega) u1).drew)
  have V4 := fun (u0 u1 : Value) => Lib.hid (((R2.setCell (q := ⟨w.heap.size, 0, none⟩) (Nat.le_refl _) hwg u0).setCell (q := ⟨w.heap.size, 1, none⟩) (Nat.le_refl _) hwg u1).drew)
  have RR2 := V4 (.int .i64 a) (.int .i64 b)
  have BS2 := V3 (.int .i64 a) (.int .i64 b)
  have BZ02 := V1 (.int .i64 a) (.int .i64 b)
  have BZ12 := V2 (.int .i64 a) (.int .i64 b)
  have RR := Lib.hid R2.drew
  have BS := Lib.hid bs.drew
  have BZ0 := Lib.hid bz0.drew
  have BZ1 := Lib.hid bz1.drew
  clear R0 R1 R2 G1 hb1 bs bz0 bz1 hA V1 V2 V3 V4
  go_region_with (first | (go_at_call 43; (with_reducible refine (l20fraction_any RR.out (by omega) (by omega) (by omega)).mono ?_); rintro e w3 ⟨a', b', hd', rfl, R3, G3⟩; have bs := BS.out.grown G3 (by intro e; injection e with e; omega); obtain ⟨c0, c1, -, -, ls⟩ := blk2 bs; have bz0 := BZ0.out.grown G3 (by intro e; injection e with e; omega); obtain ⟨d0, d1, e0, e1, lz0⟩ := blk2 bz0; have bz1 := BZ1.out.grown G3 (by intro e; injection e with e; omega); obtain ⟨d10, d11, e10, e11, lz1⟩ := blk2 bz1; have R4 := Lib.hid R3; have HD := Lib.hid hd'; clear bs bz0 bz1 G3 R3 hd') | (go_at_call 43; (with_reducible refine (l20fraction_any RR2.out (by omega) (by omega) (by omega)).mono ?_); rintro e w3 ⟨a', b', hd', rfl, R3, G3⟩; have bs := BS2.out.grown G3 (by intro e; injection e with e; omega); obtain ⟨c0, c1, -, -, ls⟩ := blk2 bs; have bz0 := BZ02.out.grown G3 (by intro e; injection e with e; omega); obtain ⟨d0, d1, e0, e1, lz0⟩ := blk2 bz0; have bz1 := BZ12.out.grown G3 (by intro e; injection e with e; omega); obtain ⟨d10, d11, e10, e11, lz1⟩ := blk2 bz1; have R4 := Lib.hid R3; have HD := Lib.hid hd'; clear bs bz0 bz1 G3 R3 hd'))
  all_goals
    go_wp2_with fail
    refine bodyPost_ret (v := .tuple #[.agg #[.int .i64 a, .int .i64 b], .agg #[.int .i64 a', .int .i64 b']]) (by simp [results, Try.results29, go_sem, d0, d1, d10, d11]) rfl ?_
    have hb := R4.out.below
    have := hb.size
    exact ⟨a, b, a', b', HA.out, HD.out, rfl, by go_grown⟩
end

set_option maxHeartbeats 1000000 in
theorem drawmulfractions_any {w : World} {a : Option Addr} {len cap : Nat} {zs : List Int} (hrow : IsRow .u8 w a len cap zs) :
    Calls Try.prog 32 #[.slice a len cap] w (FrTwoPost w) := by
  have hZ := isRow_alloc (isRow_alloc hrow (.cells #[.int .i64 0, .int .i64 0] 32)) (.cells #[.int .i64 0, .int .i64 0] 32)
  clear hrow
  go_enter Try.func32, Try.ntmps32
  go_wp2_with fail
  refine (drawaddfractions_any hZ).mono ?_
  rintro e w1 ⟨a, b, c, d, hA, hC, rfl, hb⟩
  obtain ⟨d0, d1, e0, e1, lz0⟩ := blk2 (((Blk.new w 32 #[.int .i64 0, .int .i64 0]).alloc (.cells #[.int .i64 0, .int .i64 0] 32)).below hb (by simp; omega))
  obtain ⟨d10, d11, e10, e11, lz1⟩ := blk2 ((Blk.newAt (w := w.alloc (.cells #[.int .i64 0, .int .i64 0] 32)) (g := w.heap.size + 1) (t := 32) (cs := #[.int .i64 0, .int .i64 0]) (by simp)).below hb (by simp))
  have hw := bl_behind (w := w) hb (by repeat' (first | (with_reducible exact Below.refl _ _) | (with_reducible assumption) | (with_reducible refine below_drewN ?_ _) | (with_reducible refine Below.drew ?_) | (with_reducible refine bl_alloc ?_ _) | (with_reducible refine bl_set ?_ ?_ _) | go_size | omega))
  have HB := Lib.hid hw
  have HA := Lib.hid (And.intro hA hC)
  clear hb hw hZ hA hC
  go_wp2_with fail
  refine bodyPost_ret (v := .tuple #[.agg #[.int .i64 a, .int .i64 b], .agg #[.int .i64 c, .int .i64 d]]) (by simp [results, Try.results32, go_sem, d0, d1, d10, d11]) rfl ?_
  have hb := HB.out
  exact ⟨a, b, c, d, HA.out.1, HA.out.2, rfl, (by repeat' (first | (with_reducible exact Below.refl _ _) | (with_reducible assumption) | (with_reducible refine below_drewN ?_ _) | (with_reducible refine Below.drew ?_) | (with_reducible refine bl_alloc ?_ _) | (with_reducible refine bl_set ?_ ?_ _) | go_size | omega))⟩

set_option maxHeartbeats 1000000 in
theorem drawcomparefractions_any {w : World} {a : Option Addr} {len cap : Nat} {zs : List Int} (hrow : IsRow .u8 w a len cap zs) :
    Calls Try.prog 35 #[.slice a len cap] w (FrTwoPost w) := by
  have hZ := isRow_alloc (isRow_alloc hrow (.cells #[.int .i64 0, .int .i64 0] 32)) (.cells #[.int .i64 0, .int .i64 0] 32)
  clear hrow
  go_enter Try.func35, Try.ntmps35
  go_wp2_with fail
  refine (drawaddfractions_any hZ).mono ?_
  rintro e w1 ⟨a, b, c, d, hA, hC, rfl, hb⟩
  obtain ⟨d0, d1, e0, e1, lz0⟩ := blk2 (((Blk.new w 32 #[.int .i64 0, .int .i64 0]).alloc (.cells #[.int .i64 0, .int .i64 0] 32)).below hb (by simp; omega))
  obtain ⟨d10, d11, e10, e11, lz1⟩ := blk2 ((Blk.newAt (w := w.alloc (.cells #[.int .i64 0, .int .i64 0] 32)) (g := w.heap.size + 1) (t := 32) (cs := #[.int .i64 0, .int .i64 0]) (by simp)).below hb (by simp))
  have hw := bl_behind (w := w) hb (by repeat' (first | (with_reducible exact Below.refl _ _) | (with_reducible assumption) | (with_reducible refine below_drewN ?_ _) | (with_reducible refine Below.drew ?_) | (with_reducible refine bl_alloc ?_ _) | (with_reducible refine bl_set ?_ ?_ _) | go_size | omega))
  have HB := Lib.hid hw
  have HA := Lib.hid (And.intro hA hC)
  clear hb hw hZ hA hC
  go_wp2_with fail
  refine bodyPost_ret (v := .tuple #[.agg #[.int .i64 a, .int .i64 b], .agg #[.int .i64 c, .int .i64 d]]) (by simp [results, Try.results35, go_sem, d0, d1, d10, d11]) rfl ?_
  have hb := HB.out
  exact ⟨a, b, c, d, HA.out.1, HA.out.2, rfl, (by repeat' (first | (with_reducible exact Below.refl _ _) | (with_reducible assumption) | (with_reducible refine below_drewN ?_ _) | (with_reducible refine Below.drew ?_) | (with_reducible refine bl_alloc ?_ _) | (with_reducible refine bl_set ?_ ?_ _) | go_size | omega))⟩

end Go.Proofs.Ytlcmpcjimmdcfaa
