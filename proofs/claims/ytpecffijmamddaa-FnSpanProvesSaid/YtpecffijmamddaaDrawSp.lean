/- Drawn spans. No condition: contracts for the walks of the laws. -/
import Derived.Test.YtpecffijmamddaaDrawSt
namespace Go.Proofs.Ytpecffijmamddaa
open Go.ChangeShapes Go.WideShapes Go.ChangeAt Go.RowKit

/-- A drawn span. -/
def SnPost (w0 w : World) (g N : Nat) (e : Ending) (w' : World) : Prop := ∃ p q : Int, -1073741825 ≤ p ∧ p ≤ 1073741825 ∧ -1073741825 ≤ q ∧ q ≤ 1073741825 ∧ e = .returned (.agg #[.int .i64 p, .int .i64 q]) ∧ Rds w0 w' g N ∧ w.grownBy w' (some g)
set_option maxHeartbeats 8000000 in
theorem l20span_any {w0 w : World} {g N : Nat} {n : Int} (R0 : Rds w0 w g N) (hN : N ≤ 990000) (hn0 : 0 ≤ n) (hn1 : n ≤ 1000) :
    Calls Try.prog 53 #[.pointer (some ⟨g, 0, none⟩), .int .i64 n] w (SnPost w0 w g (N + 20)) := by
  have hlt := R0.lt
  have hb0 := R0.below.size
  go_enter Try.func53, Try.ntmps53
  go_wp2_with fail
  refine (pick_any (R0.alloc _) (by omega) (by omega) (by omega)).mono ?_
  rintro e w1 ⟨x1, hx10, hx11, rfl, R1, G1⟩
  go_wp2_with fail
  refine (pick_any R1 (by omega) (by omega) (by omega)).mono ?_
  rintro e w2 ⟨x2, hx20, hx21, rfl, R2, G2⟩
  go_wp2_with fail
  refine (pick_any R2 (by omega) (by omega) (by omega)).mono ?_
  rintro e w3 ⟨x3, hx30, hx31, rfl, R3, G3⟩
  go_wp2_with fail
  refine (pick_any ((R3.alloc _).alloc _) (by omega) (by omega) (by omega)).mono ?_
  rintro e w4 ⟨x4, hx40, hx41, rfl, R4, G4⟩
  have s1 := G1.size
  have s2 := G2.size
  have s3 := G3.size
  rw [World.size_alloc] at s1
  have hl3 := R3.lt
  have bA := ((Blk.new w3 _ _).alloc _).grown G4 (by intro e; injection e with e; first | omega | (simp at e; omega))
  have bB := (Blk.new (w3.alloc _) _ _).grown G4 (by intro e; injection e with e; first | omega | (simp at e; omega))
  rw [World.size_alloc] at bB
  obtain ⟨v, hv0, hv1, cv⟩ := draw_cell (l := [0, 0, 0, 1, 1, 2, 3, 4, 5]) (lo := 0) (hi := 5) bB (by decide) hx40 (by simpa using hx41)
  obtain ⟨u, u0, u1, cu⟩ := draw_cell (l := [(x1 - 128) * 8388608, (x2 - 128) * 32768, x3 - 128, 268435456, 1073741824, -1073741824]) (lo := -1073741824) (hi := 1073741824) bA (by simp only [List.mem_cons, List.not_mem_nil, or_false]; rintro y hy; omega) hv0 (by simp; omega)
  have bz := ((((((Blk.new w 34 #[.int .i64 0, .int .i64 0]).grown G1 (by intro e; injection e with e; first | omega | (simp at e; omega))).grown G2 (by intro e; injection e with e; first | omega | (simp at e; omega))).grown G3 (by intro e; injection e with e; first | omega | (simp at e; omega))).alloc (.cells #[.int .i64 ((x1 - 128) * 8388608), .int .i64 ((x2 - 128) * 32768), .int .i64 (x3 - 128), .int .i64 268435456, .int .i64 1073741824, .int .i64 (-1073741824)] 3)).alloc (.cells #[.int .i64 0, .int .i64 0, .int .i64 0, .int .i64 1, .int .i64 1, .int .i64 2, .int .i64 3, .int .i64 4, .int .i64 5] 3)).grown G4 (by intro e; injection e with e; first | omega | (simp at e; omega))
  have GW := grownBy_trans (grownBy_alloc (grownBy_alloc (grownBy_trans (grownBy_trans (grownBy_trans (grownBy_alloc (grown_refl w (some g)) (.cells #[.int .i64 0, .int .i64 0] 34)) G1) G2) G3) (.cells #[.int .i64 ((x1 - 128) * 8388608), .int .i64 ((x2 - 128) * 32768), .int .i64 (x3 - 128), .int .i64 268435456, .int .i64 1073741824, .int .i64 (-1073741824)] 3)) (.cells #[.int .i64 0, .int .i64 0, .int .i64 0, .int .i64 1, .int .i64 1, .int .i64 2, .int .i64 3, .int .i64 4, .int .i64 5] 3)) G4
  have HGW := Lib.hid GW
  have HBZ := Lib.hid bz
  have hz4 := bz.lt
  clear bA bB bz GW R1 R2 R3 G1 G2 G3 G4 R0
  go_wp2_with fail
  clear cu cv
  refine (pick_any R4 (by omega) (by omega) (by omega)).mono ?_
  rintro e w5 ⟨x5, hx50, hx51, rfl, R5, G5⟩
  go_wp2_with fail
  refine (pick_any R5 (by omega) (by omega) (by omega)).mono ?_
  rintro e w8 ⟨x8, hx80, hx81, rfl, R8, G8⟩
  go_wp2_with fail
  refine (pick_any (R8.alloc _) (by omega) (by omega) (by omega)).mono ?_
  rintro e w9 ⟨x9, hx90, hx91, rfl, R9, G9⟩
  have s5 := G5.size
  have s8 := G8.size
  have s9 := G9.size
  rw [World.size_alloc] at s9
  have hl8 := R8.lt
  have hl9 := R9.lt
  have bA := (Blk.new w8 _ _).grown G9 (by intro e; injection e with e; first | omega | (simp at e; omega))
  obtain ⟨t, t0, t1, ct⟩ := draw_cell (l := [0, x5, x8 * 16384]) (lo := 0) (hi := 4177920) bA (by simp only [List.mem_cons, List.not_mem_nil, or_false]; rintro y hy; omega) hx90 (by simpa using hx91)
  have bz := (((HBZ.out.grown G5 (by intro e; injection e with e; first | omega | (simp at e; omega))).grown G8 (by intro e; injection e with e; first | omega | (simp at e; omega))).alloc (.cells #[.int .i64 0, .int .i64 x5, .int .i64 (x8 * 16384)] 3)).grown G9 (by intro e; injection e with e; first | omega | (simp at e; omega))
  have GW := grownBy_trans (grownBy_alloc (grownBy_trans (grownBy_trans HGW.out G5) G8) (.cells #[.int .i64 0, .int .i64 x5, .int .i64 (x8 * 16384)] 3)) G9
  clear HBZ HGW bA R4 R5 R8 G5 G8 G9
  obtain ⟨M, hM, hM0, hM1⟩ : ∃ M : Int, M = (if u + t < 1073741824 then u + t else 1073741824) ∧ -1073741824 ≤ M ∧ M ≤ 1073741824 := ⟨_, rfl, by split <;> omega, by split <;> omega⟩
  have bf := Blk.new w9 34 #[.int .i64 u, .int .i64 M]
  have bz := bz.alloc (.cells #[.int .i64 u, .int .i64 M] 34)
  have GW := grownBy_alloc GW (.cells #[.int .i64 u, .int .i64 M] 34)
  have RW := R9.alloc (.cells #[.int .i64 u, .int .i64 M] 34)
  clear R9
  by_cases hmin : u + t < 1073741824
  · rw [if_pos hmin] at hM
    subst hM
    go_wp2_with fail
    refine (odd_any0 RW (by omega) hn0 (by omega)).mono ?_
    rintro e w6 ⟨o, rfl, R6, G6⟩
    have GW6 := grownBy_trans GW G6
    have bf6 := bf.grown G6 (by intro e; injection e with e; first | omega | (simp at e; omega))
    have bz6 := bz.grown G6 (by intro e; injection e with e; first | omega | (simp at e; omega))
    cases o
    · obtain ⟨c0, c1, c2, c3, lf⟩ := blk2 bf6
      obtain ⟨d0, d1, d2, d3, lz⟩ := blk2 bz6
      have HR := Lib.hid ((R6.setCell (q := ⟨w.heap.size, 0, none⟩) (by dsimp only; omega) (by dsimp only; omega) (.int .i64 (u))).setCell (q := ⟨w.heap.size, 1, none⟩) (by dsimp only; omega) (by dsimp only; omega) (.int .i64 (u + t)))
      have HG := Lib.hid (grownBy_setCell (grownBy_setCell GW6 (p := ⟨w.heap.size, 0, none⟩) (Nat.le_refl _) (.int .i64 (u))) (p := ⟨w.heap.size, 1, none⟩) (Nat.le_refl _) (.int .i64 (u + t)))
      have bq : Blk _ w.heap.size 34 #[.int .i64 (u), .int .i64 (u + t)] := (bz6.set 0 (.int .i64 (u))).set 1 (.int .i64 (u + t))
      obtain ⟨e0, e1, -, -, -⟩ := blk2 bq
      clear R6 G6 GW6 bf6 bz6 RW GW bf bz bq
      go_wp2_with fail
      refine bodyPost_ret (v := .agg #[.int .i64 (u), .int .i64 (u + t)]) (by simp [results, Try.results53, go_sem, e0, e1]) rfl ?_
      exact ⟨_, _, by omega, by omega, by omega, by omega, rfl, HR.out.mono (by omega), HG.out⟩
    · go_wp2_with fail
      refine (pick_any (R6.alloc _) (by omega) (by omega) (by omega)).mono ?_
      rintro e w7 ⟨x7, x70, x71, rfl, R7, G7⟩
      have hl6 := R6.lt
      have GW7 := grownBy_trans (grownBy_alloc GW6 _) G7
      have bl := (Blk.new w6 _ _).grown G7 (by intro e; injection e with e; first | omega | (simp at e; omega))
      have bf7 := (bf6.alloc _).grown G7 (by intro e; injection e with e; first | omega | (simp at e; omega))
      have bz7 := (bz6.alloc _).grown G7 (by intro e; injection e with e; first | omega | (simp at e; omega))
      obtain ⟨c0, c1, c2, c3, lf⟩ := blk2 bf7
      obtain ⟨d0, d1, d2, d3, lz⟩ := blk2 bz7
      have k0 := bl.cell 0; have k1 := bl.cell 1; have k2 := bl.cell 2; have k3 := bl.cell 3; have k4 := bl.cell 4; have k5 := bl.cell 5
      simp at k0 k1 k2 k3 k4 k5
      have HRf := Lib.hid (fun (s t : Int) => (((R7.setCell (q := ⟨w9.heap.size, 0, none⟩) (by dsimp only; omega) (by dsimp only; omega) (.int .i64 s)).setCell (q := ⟨w9.heap.size, 1, none⟩) (by dsimp only; omega) (by dsimp only; omega) (.int .i64 t)).setCell (q := ⟨w.heap.size, 0, none⟩) (by dsimp only; omega) (by dsimp only; omega) (.int .i64 s)).setCell (q := ⟨w.heap.size, 1, none⟩) (by dsimp only; omega) (by dsimp only; omega) (.int .i64 t))
      have HGf := Lib.hid (fun (s t : Int) => grownBy_setCell (grownBy_setCell (grownBy_setCell (grownBy_setCell GW7 (p := ⟨w9.heap.size, 0, none⟩) (by dsimp only; omega) (.int .i64 s)) (p := ⟨w9.heap.size, 1, none⟩) (by dsimp only; omega) (.int .i64 t)) (p := ⟨w.heap.size, 0, none⟩) (Nat.le_refl _) (.int .i64 s)) (p := ⟨w.heap.size, 1, none⟩) (Nat.le_refl _) (.int .i64 t))
      have HEf := Lib.hid (fun (s t : Int) => blk2 (show Blk _ w.heap.size 34 #[.int .i64 s, .int .i64 t] from (((bz7.far (p := ⟨w9.heap.size, 0, none⟩) (by dsimp only; omega) (.int .i64 s)).far (p := ⟨w9.heap.size, 1, none⟩) (by dsimp only; omega) (.int .i64 t)).set 0 (.int .i64 s)).set 1 (.int .i64 t)))
      clear R6 G6 GW6 bf6 bz6 RW GW bf bz R7 G7 GW7 bl bf7 bz7
      rcases (by omega : x7 = 0 ∨ x7 = 1 ∨ x7 = 2) with rfl | rfl | rfl
      · go_wp2_with fail
        obtain ⟨e0, e1, -, -, -⟩ := HEf.out 2 1
        refine bodyPost_ret (v := .agg #[.int .i64 2, .int .i64 1]) (by simp [results, Try.results53, go_sem, e0, e1]) rfl ?_
        exact ⟨2, 1, by omega, by omega, by omega, by omega, rfl, (HRf.out 2 1).mono (by omega), HGf.out 2 1⟩
      · go_wp2_with fail
        obtain ⟨e0, e1, -, -, -⟩ := HEf.out (-1073741825) 0
        refine bodyPost_ret (v := .agg #[.int .i64 (-1073741825), .int .i64 0]) (by simp [results, Try.results53, go_sem, e0, e1]) rfl ?_
        exact ⟨-1073741825, 0, by omega, by omega, by omega, by omega, rfl, (HRf.out (-1073741825) 0).mono (by omega), HGf.out (-1073741825) 0⟩
      · go_wp2_with fail
        obtain ⟨e0, e1, -, -, -⟩ := HEf.out 0 1073741825
        refine bodyPost_ret (v := .agg #[.int .i64 0, .int .i64 1073741825]) (by simp [results, Try.results53, go_sem, e0, e1]) rfl ?_
        exact ⟨0, 1073741825, by omega, by omega, by omega, by omega, rfl, (HRf.out 0 1073741825).mono (by omega), HGf.out 0 1073741825⟩

  · rw [if_neg hmin] at hM
    subst hM
    go_wp2_with fail
    refine (odd_any0 RW (by omega) hn0 (by omega)).mono ?_
    rintro e w6 ⟨o, rfl, R6, G6⟩
    have GW6 := grownBy_trans GW G6
    have bf6 := bf.grown G6 (by intro e; injection e with e; first | omega | (simp at e; omega))
    have bz6 := bz.grown G6 (by intro e; injection e with e; first | omega | (simp at e; omega))
    cases o
    · obtain ⟨c0, c1, c2, c3, lf⟩ := blk2 bf6
      obtain ⟨d0, d1, d2, d3, lz⟩ := blk2 bz6
      have HR := Lib.hid ((R6.setCell (q := ⟨w.heap.size, 0, none⟩) (by dsimp only; omega) (by dsimp only; omega) (.int .i64 (u))).setCell (q := ⟨w.heap.size, 1, none⟩) (by dsimp only; omega) (by dsimp only; omega) (.int .i64 (1073741824)))
      have HG := Lib.hid (grownBy_setCell (grownBy_setCell GW6 (p := ⟨w.heap.size, 0, none⟩) (Nat.le_refl _) (.int .i64 (u))) (p := ⟨w.heap.size, 1, none⟩) (Nat.le_refl _) (.int .i64 (1073741824)))
      have bq : Blk _ w.heap.size 34 #[.int .i64 (u), .int .i64 (1073741824)] := (bz6.set 0 (.int .i64 (u))).set 1 (.int .i64 (1073741824))
      obtain ⟨e0, e1, -, -, -⟩ := blk2 bq
      clear R6 G6 GW6 bf6 bz6 RW GW bf bz bq
      go_wp2_with fail
      refine bodyPost_ret (v := .agg #[.int .i64 (u), .int .i64 (1073741824)]) (by simp [results, Try.results53, go_sem, e0, e1]) rfl ?_
      exact ⟨_, _, by omega, by omega, by omega, by omega, rfl, HR.out.mono (by omega), HG.out⟩
    · go_wp2_with fail
      refine (pick_any (R6.alloc _) (by omega) (by omega) (by omega)).mono ?_
      rintro e w7 ⟨x7, x70, x71, rfl, R7, G7⟩
      have hl6 := R6.lt
      have GW7 := grownBy_trans (grownBy_alloc GW6 _) G7
      have bl := (Blk.new w6 _ _).grown G7 (by intro e; injection e with e; first | omega | (simp at e; omega))
      have bf7 := (bf6.alloc _).grown G7 (by intro e; injection e with e; first | omega | (simp at e; omega))
      have bz7 := (bz6.alloc _).grown G7 (by intro e; injection e with e; first | omega | (simp at e; omega))
      obtain ⟨c0, c1, c2, c3, lf⟩ := blk2 bf7
      obtain ⟨d0, d1, d2, d3, lz⟩ := blk2 bz7
      have k0 := bl.cell 0; have k1 := bl.cell 1; have k2 := bl.cell 2; have k3 := bl.cell 3; have k4 := bl.cell 4; have k5 := bl.cell 5
      simp at k0 k1 k2 k3 k4 k5
      have HRf := Lib.hid (fun (s t : Int) => (((R7.setCell (q := ⟨w9.heap.size, 0, none⟩) (by dsimp only; omega) (by dsimp only; omega) (.int .i64 s)).setCell (q := ⟨w9.heap.size, 1, none⟩) (by dsimp only; omega) (by dsimp only; omega) (.int .i64 t)).setCell (q := ⟨w.heap.size, 0, none⟩) (by dsimp only; omega) (by dsimp only; omega) (.int .i64 s)).setCell (q := ⟨w.heap.size, 1, none⟩) (by dsimp only; omega) (by dsimp only; omega) (.int .i64 t))
      have HGf := Lib.hid (fun (s t : Int) => grownBy_setCell (grownBy_setCell (grownBy_setCell (grownBy_setCell GW7 (p := ⟨w9.heap.size, 0, none⟩) (by dsimp only; omega) (.int .i64 s)) (p := ⟨w9.heap.size, 1, none⟩) (by dsimp only; omega) (.int .i64 t)) (p := ⟨w.heap.size, 0, none⟩) (Nat.le_refl _) (.int .i64 s)) (p := ⟨w.heap.size, 1, none⟩) (Nat.le_refl _) (.int .i64 t))
      have HEf := Lib.hid (fun (s t : Int) => blk2 (show Blk _ w.heap.size 34 #[.int .i64 s, .int .i64 t] from (((bz7.far (p := ⟨w9.heap.size, 0, none⟩) (by dsimp only; omega) (.int .i64 s)).far (p := ⟨w9.heap.size, 1, none⟩) (by dsimp only; omega) (.int .i64 t)).set 0 (.int .i64 s)).set 1 (.int .i64 t)))
      clear R6 G6 GW6 bf6 bz6 RW GW bf bz R7 G7 GW7 bl bf7 bz7
      rcases (by omega : x7 = 0 ∨ x7 = 1 ∨ x7 = 2) with rfl | rfl | rfl
      · go_wp2_with fail
        obtain ⟨e0, e1, -, -, -⟩ := HEf.out 2 1
        refine bodyPost_ret (v := .agg #[.int .i64 2, .int .i64 1]) (by simp [results, Try.results53, go_sem, e0, e1]) rfl ?_
        exact ⟨2, 1, by omega, by omega, by omega, by omega, rfl, (HRf.out 2 1).mono (by omega), HGf.out 2 1⟩
      · go_wp2_with fail
        obtain ⟨e0, e1, -, -, -⟩ := HEf.out (-1073741825) 0
        refine bodyPost_ret (v := .agg #[.int .i64 (-1073741825), .int .i64 0]) (by simp [results, Try.results53, go_sem, e0, e1]) rfl ?_
        exact ⟨-1073741825, 0, by omega, by omega, by omega, by omega, rfl, (HRf.out (-1073741825) 0).mono (by omega), HGf.out (-1073741825) 0⟩
      · go_wp2_with fail
        obtain ⟨e0, e1, -, -, -⟩ := HEf.out 0 1073741825
        refine bodyPost_ret (v := .agg #[.int .i64 0, .int .i64 1073741825]) (by simp [results, Try.results53, go_sem, e0, e1]) rfl ?_
        exact ⟨0, 1073741825, by omega, by omega, by omega, by omega, rfl, (HRf.out 0 1073741825).mono (by omega), HGf.out 0 1073741825⟩


end Go.Proofs.Ytpecffijmamddaa
