/- Drawn formats. No condition: contracts for the walks of the laws. -/
import Derived.Test.YtidnnnjjpjadlaaGreatDoorMfl
import Derived.Test.YtidnnnjjpjadlaaGreatDoorFmt
namespace Go.Proofs.YtidnnnjjpjadlaaGreatDoor
open Go.ChangeShapes Go.WideShapes Go.ChangeAt Go.RowKit

set_option maxHeartbeats 400000 in
theorem odd_any0 {w0 w : World} {g N : Nat} {n : Int} (hR : Rds w0 w g N) (hN : N ≤ 1000000) (h1 : 0 ≤ n) (h2 : n ≤ 1000000) :
    Calls Tryz.prog 46 #[.pointer (some ⟨g, 0, none⟩), .int .i64 n] w (OddPost w0 w g N) := by
  rcases (by omega : n = 0 ∨ 1 ≤ n) with rfl | h
  · have HF := Lib.hid (show OddPost w0 w g N (.returned (.bool false)) w from ⟨false, rfl, hR.mono (by omega), grown_refl _ _⟩)
    clear hR
    go_enter Tryz.func46, Tryz.ntmps46
    go_wp2
    go_ret
    exact HF.out
  · exact odd_any hR hN h h2
/-- A drawn format. -/
def FmPost (w0 w : World) (g N : Nat) (e : Ending) (w' : World) : Prop := ∃ p q : Int, -1 ≤ p ∧ p ≤ 17 ∧ -1 ≤ q ∧ q ≤ 17 ∧ e = .returned (.agg #[.int .i64 p, .int .i64 q]) ∧ Rds w0 w' g N ∧ w.grownBy w' (some g)
set_option maxHeartbeats 4000000 in
theorem l20format_any {w0 w : World} {g N : Nat} {n : Int} (R0 : Rds w0 w g N) (hN : N ≤ 999000) (hn0 : 0 ≤ n) (hn1 : n ≤ 1000) :
    Calls Tryz.prog 50 #[.pointer (some ⟨g, 0, none⟩), .int .i64 n] w (FmPost w0 w g (N + 7)) := by
  have hlt := R0.lt
  have hb0 := R0.below.size
  go_enter Tryz.func50, Tryz.ntmps50
  go_wp2_with fail
  refine (pick_any (R0.alloc _) (by omega) (by omega) (by omega)).mono ?_
  rintro e w1 ⟨x1, hx10, hx11, rfl, R1, G1⟩
  go_wp2_with fail
  refine (pick_any R1 (by omega) (by omega) (by omega)).mono ?_
  rintro e w2 ⟨x2, hx20, hx21, rfl, R2, G2⟩
  go_wp2_with fail
  refine (pick_any (R2.alloc _) (by omega) (by omega) (by omega)).mono ?_
  rintro e w3 ⟨x3, hx30, hx31, rfl, R3, G3⟩
  have s1 := G1.size
  have s2 := G2.size
  rw [World.size_alloc] at s1
  have bz := (((Blk.new w 24 #[.int .i64 0, .int .i64 0]).grown G1 (by intro e; injection e with e; first | omega | (simp at e; omega))).grown G2 (by intro e; injection e with e; first | omega | (simp at e; omega))).alloc (.cells #[.int .i64 (1 + x1), .int .i64 x2] 24)
  have bz := bz.grown G3 (by intro e; injection e with e; first | omega | (simp at e; omega))
  have bf := (Blk.new w2 24 #[.int .i64 (1 + x1), .int .i64 x2]).grown G3 (by intro e; injection e with e; first | omega | (simp at e; omega))
  have GW := grownBy_trans (grownBy_alloc (grownBy_trans (grownBy_trans (grownBy_alloc (grown_refl w (some g)) (.cells #[.int .i64 0, .int .i64 0] 24)) G1) G2) (.cells #[.int .i64 (1 + x1), .int .i64 x2] 24)) G3
  by_cases h3 : x3 = 0
  · subst h3
    go_wp2_with fail
    refine (pick_any R3 (by omega) (by omega) (by omega)).mono ?_
    rintro e w4 ⟨x4, hx40, hx41, rfl, R4, G4⟩
    go_wp2_with fail
    refine (pick_any R4 (by omega) (by omega) (by omega)).mono ?_
    rintro e w5 ⟨x5, hx50, hx51, rfl, R5, G5⟩
    have bf := (bf.grown G4 (by intro e; injection e with e; first | omega | (simp at e; omega))).grown G5 (by intro e; injection e with e; first | omega | (simp at e; omega))
    have bz := (bz.grown G4 (by intro e; injection e with e; first | omega | (simp at e; omega))).grown G5 (by intro e; injection e with e; first | omega | (simp at e; omega))
    obtain ⟨c0, c1, c2, c3, lf⟩ := blk2 bf
    have GW := grownBy_setCell (grownBy_setCell (grownBy_trans (grownBy_trans GW G4) G5) (p := ⟨w2.heap.size, 0, none⟩) (by dsimp only; omega) (.int .i64 (1 + x4))) (p := ⟨w2.heap.size, 1, none⟩) (by dsimp only; omega) (.int .i64 x5)
    have RW := (R5.setCell (q := ⟨w2.heap.size, 0, none⟩) (by dsimp only; omega) (by dsimp only; omega) (.int .i64 (1 + x4))).setCell (q := ⟨w2.heap.size, 1, none⟩) (by dsimp only; omega) (by dsimp only; omega) (.int .i64 x5)
    have bz := (bz.far (p := ⟨w2.heap.size, 0, none⟩) (by dsimp only; omega) (.int .i64 (1 + x4))).far (p := ⟨w2.heap.size, 1, none⟩) (by dsimp only; omega) (.int .i64 x5)
    have bf : Blk _ w2.heap.size 24 #[.int .i64 (1 + x4), .int .i64 x5] := (bf.set 0 (.int .i64 (1 + x4))).set 1 (.int .i64 x5)
    clear R3 R4 R5 G3 G4 G5
    go_wp2_with fail
    refine (odd_any0 RW (by omega) hn0 (by omega)).mono ?_
    rintro e w6 ⟨o, rfl, R6, G6⟩
    have GW6 := grownBy_trans GW G6
    have bf6 := bf.grown G6 (by intro e; injection e with e; first | omega | (simp at e; omega))
    have bz6 := bz.grown G6 (by intro e; injection e with e; first | omega | (simp at e; omega))
    cases o
    · obtain ⟨c0, c1, c2, c3, lf⟩ := blk2 bf6
      obtain ⟨d0, d1, d2, d3, lz⟩ := blk2 bz6
      have HR := Lib.hid ((R6.setCell (q := ⟨w.heap.size, 0, none⟩) (by dsimp only; omega) (by dsimp only; omega) (.int .i64 (1 + x4))).setCell (q := ⟨w.heap.size, 1, none⟩) (by dsimp only; omega) (by dsimp only; omega) (.int .i64 (x5)))
      have HG := Lib.hid (grownBy_setCell (grownBy_setCell GW6 (p := ⟨w.heap.size, 0, none⟩) (Nat.le_refl _) (.int .i64 (1 + x4))) (p := ⟨w.heap.size, 1, none⟩) (Nat.le_refl _) (.int .i64 (x5)))
      have bq : Blk _ w.heap.size 24 #[.int .i64 (1 + x4), .int .i64 (x5)] := (bz6.set 0 (.int .i64 (1 + x4))).set 1 (.int .i64 (x5))
      obtain ⟨e0, e1, -, -, -⟩ := blk2 bq
      clear R6 G6 GW6 bf6 bz6 RW GW bf bz bq
      go_wp2_with fail
      refine bodyPost_ret (v := .agg #[.int .i64 (1 + x4), .int .i64 (x5)]) (by simp [results, Tryz.results50, go_sem, e0, e1]) rfl ?_
      exact ⟨_, _, by omega, by omega, by omega, by omega, rfl, HR.out.mono (by omega), HG.out⟩
    · go_wp2_with fail
      refine (pick_any (R6.alloc _) (by omega) (by omega) (by omega)).mono ?_
      rintro e w7 ⟨x7, x70, x71, rfl, R7, G7⟩
      have hl6 := R6.lt
      have GW7 := grownBy_trans (grownBy_alloc GW6 _) G7
      have bl := (Blk.new w6 _ _).grown G7 (by intro e; injection e with e; first | omega | (simp at e; omega))
      have bf7 := (bf6.alloc _).grown G7 (by intro e; injection e with e; first | omega | (simp at e; omega))
      have bz7 := (bz6.alloc _).grown G7 (by intro e; injection e with e; first | omega | (simp at e; omega))
      obtain ⟨c0, c1, c2, c3, lf⟩ := blk2 bf7
      obtain ⟨d0, d1, d2, d3, lz⟩ := blk2 bz7
      have k0 := bl.cell 0; have k1 := bl.cell 1; have k2 := bl.cell 2; have k3 := bl.cell 3; have k4 := bl.cell 4; have k5 := bl.cell 5; have k6 := bl.cell 6; have k7 := bl.cell 7
      simp at k0 k1 k2 k3 k4 k5 k6 k7
      have HRf := Lib.hid (fun (s t : Int) => (((R7.setCell (q := ⟨w2.heap.size, 0, none⟩) (by dsimp only; omega) (by dsimp only; omega) (.int .i64 s)).setCell (q := ⟨w2.heap.size, 1, none⟩) (by dsimp only; omega) (by dsimp only; omega) (.int .i64 t)).setCell (q := ⟨w.heap.size, 0, none⟩) (by dsimp only; omega) (by dsimp only; omega) (.int .i64 s)).setCell (q := ⟨w.heap.size, 1, none⟩) (by dsimp only; omega) (by dsimp only; omega) (.int .i64 t))
      have HGf := Lib.hid (fun (s t : Int) => grownBy_setCell (grownBy_setCell (grownBy_setCell (grownBy_setCell GW7 (p := ⟨w2.heap.size, 0, none⟩) (by dsimp only; omega) (.int .i64 s)) (p := ⟨w2.heap.size, 1, none⟩) (by dsimp only; omega) (.int .i64 t)) (p := ⟨w.heap.size, 0, none⟩) (Nat.le_refl _) (.int .i64 s)) (p := ⟨w.heap.size, 1, none⟩) (Nat.le_refl _) (.int .i64 t))
      have HEf := Lib.hid (fun (s t : Int) => blk2 (show Blk _ w.heap.size 24 #[.int .i64 s, .int .i64 t] from (((bz7.far (p := ⟨w2.heap.size, 0, none⟩) (by dsimp only; omega) (.int .i64 s)).far (p := ⟨w2.heap.size, 1, none⟩) (by dsimp only; omega) (.int .i64 t)).set 0 (.int .i64 s)).set 1 (.int .i64 t)))
      clear R6 G6 GW6 bf6 bz6 RW GW bf bz R7 G7 GW7 bl bf7 bz7
      rcases (by omega : x7 = 0 ∨ x7 = 1 ∨ x7 = 2 ∨ x7 = 3) with rfl | rfl | rfl | rfl
      · go_wp2_with fail
        obtain ⟨e0, e1, -, -, -⟩ := HEf.out 0 3
        refine bodyPost_ret (v := .agg #[.int .i64 0, .int .i64 3]) (by simp [results, Tryz.results50, go_sem, e0, e1]) rfl ?_
        exact ⟨0, 3, by omega, by omega, by omega, by omega, rfl, (HRf.out 0 3).mono (by omega), HGf.out 0 3⟩
      · go_wp2_with fail
        obtain ⟨e0, e1, -, -, -⟩ := HEf.out 13 3
        refine bodyPost_ret (v := .agg #[.int .i64 13, .int .i64 3]) (by simp [results, Tryz.results50, go_sem, e0, e1]) rfl ?_
        exact ⟨13, 3, by omega, by omega, by omega, by omega, rfl, (HRf.out 13 3).mono (by omega), HGf.out 13 3⟩
      · go_wp2_with fail
        obtain ⟨e0, e1, -, -, -⟩ := HEf.out 3 (-1)
        refine bodyPost_ret (v := .agg #[.int .i64 3, .int .i64 (-1)]) (by simp [results, Tryz.results50, go_sem, e0, e1]) rfl ?_
        exact ⟨3, -1, by omega, by omega, by omega, by omega, rfl, (HRf.out 3 (-1)).mono (by omega), HGf.out 3 (-1)⟩
      · go_wp2_with fail
        obtain ⟨e0, e1, -, -, -⟩ := HEf.out 3 17
        refine bodyPost_ret (v := .agg #[.int .i64 3, .int .i64 17]) (by simp [results, Tryz.results50, go_sem, e0, e1]) rfl ?_
        exact ⟨3, 17, by omega, by omega, by omega, by omega, rfl, (HRf.out 3 17).mono (by omega), HGf.out 3 17⟩
  · have h3' : (x3 == 0) = false := by simp; omega
    have RW := R3
    go_wp2_with fail
    refine (odd_any0 RW (by omega) hn0 (by omega)).mono ?_
    rintro e w6 ⟨o, rfl, R6, G6⟩
    have GW6 := grownBy_trans GW G6
    have bf6 := bf.grown G6 (by intro e; injection e with e; first | omega | (simp at e; omega))
    have bz6 := bz.grown G6 (by intro e; injection e with e; first | omega | (simp at e; omega))
    cases o
    · obtain ⟨c0, c1, c2, c3, lf⟩ := blk2 bf6
      obtain ⟨d0, d1, d2, d3, lz⟩ := blk2 bz6
      have HR := Lib.hid ((R6.setCell (q := ⟨w.heap.size, 0, none⟩) (by dsimp only; omega) (by dsimp only; omega) (.int .i64 (1 + x1))).setCell (q := ⟨w.heap.size, 1, none⟩) (by dsimp only; omega) (by dsimp only; omega) (.int .i64 (x2)))
      have HG := Lib.hid (grownBy_setCell (grownBy_setCell GW6 (p := ⟨w.heap.size, 0, none⟩) (Nat.le_refl _) (.int .i64 (1 + x1))) (p := ⟨w.heap.size, 1, none⟩) (Nat.le_refl _) (.int .i64 (x2)))
      have bq : Blk _ w.heap.size 24 #[.int .i64 (1 + x1), .int .i64 (x2)] := (bz6.set 0 (.int .i64 (1 + x1))).set 1 (.int .i64 (x2))
      obtain ⟨e0, e1, -, -, -⟩ := blk2 bq
      clear R6 G6 GW6 bf6 bz6 RW GW bf bz bq
      go_wp2_with fail
      refine bodyPost_ret (v := .agg #[.int .i64 (1 + x1), .int .i64 (x2)]) (by simp [results, Tryz.results50, go_sem, e0, e1]) rfl ?_
      exact ⟨_, _, by omega, by omega, by omega, by omega, rfl, HR.out.mono (by omega), HG.out⟩
    · go_wp2_with fail
      refine (pick_any (R6.alloc _) (by omega) (by omega) (by omega)).mono ?_
      rintro e w7 ⟨x7, x70, x71, rfl, R7, G7⟩
      have hl6 := R6.lt
      have GW7 := grownBy_trans (grownBy_alloc GW6 _) G7
      have bl := (Blk.new w6 _ _).grown G7 (by intro e; injection e with e; first | omega | (simp at e; omega))
      have bf7 := (bf6.alloc _).grown G7 (by intro e; injection e with e; first | omega | (simp at e; omega))
      have bz7 := (bz6.alloc _).grown G7 (by intro e; injection e with e; first | omega | (simp at e; omega))
      obtain ⟨c0, c1, c2, c3, lf⟩ := blk2 bf7
      obtain ⟨d0, d1, d2, d3, lz⟩ := blk2 bz7
      have k0 := bl.cell 0; have k1 := bl.cell 1; have k2 := bl.cell 2; have k3 := bl.cell 3; have k4 := bl.cell 4; have k5 := bl.cell 5; have k6 := bl.cell 6; have k7 := bl.cell 7
      simp at k0 k1 k2 k3 k4 k5 k6 k7
      have HRf := Lib.hid (fun (s t : Int) => (((R7.setCell (q := ⟨w2.heap.size, 0, none⟩) (by dsimp only; omega) (by dsimp only; omega) (.int .i64 s)).setCell (q := ⟨w2.heap.size, 1, none⟩) (by dsimp only; omega) (by dsimp only; omega) (.int .i64 t)).setCell (q := ⟨w.heap.size, 0, none⟩) (by dsimp only; omega) (by dsimp only; omega) (.int .i64 s)).setCell (q := ⟨w.heap.size, 1, none⟩) (by dsimp only; omega) (by dsimp only; omega) (.int .i64 t))
      have HGf := Lib.hid (fun (s t : Int) => grownBy_setCell (grownBy_setCell (grownBy_setCell (grownBy_setCell GW7 (p := ⟨w2.heap.size, 0, none⟩) (by dsimp only; omega) (.int .i64 s)) (p := ⟨w2.heap.size, 1, none⟩) (by dsimp only; omega) (.int .i64 t)) (p := ⟨w.heap.size, 0, none⟩) (Nat.le_refl _) (.int .i64 s)) (p := ⟨w.heap.size, 1, none⟩) (Nat.le_refl _) (.int .i64 t))
      have HEf := Lib.hid (fun (s t : Int) => blk2 (show Blk _ w.heap.size 24 #[.int .i64 s, .int .i64 t] from (((bz7.far (p := ⟨w2.heap.size, 0, none⟩) (by dsimp only; omega) (.int .i64 s)).far (p := ⟨w2.heap.size, 1, none⟩) (by dsimp only; omega) (.int .i64 t)).set 0 (.int .i64 s)).set 1 (.int .i64 t)))
      clear R6 G6 GW6 bf6 bz6 RW GW bf bz R7 G7 GW7 bl bf7 bz7
      rcases (by omega : x7 = 0 ∨ x7 = 1 ∨ x7 = 2 ∨ x7 = 3) with rfl | rfl | rfl | rfl
      · go_wp2_with fail
        obtain ⟨e0, e1, -, -, -⟩ := HEf.out 0 3
        refine bodyPost_ret (v := .agg #[.int .i64 0, .int .i64 3]) (by simp [results, Tryz.results50, go_sem, e0, e1]) rfl ?_
        exact ⟨0, 3, by omega, by omega, by omega, by omega, rfl, (HRf.out 0 3).mono (by omega), HGf.out 0 3⟩
      · go_wp2_with fail
        obtain ⟨e0, e1, -, -, -⟩ := HEf.out 13 3
        refine bodyPost_ret (v := .agg #[.int .i64 13, .int .i64 3]) (by simp [results, Tryz.results50, go_sem, e0, e1]) rfl ?_
        exact ⟨13, 3, by omega, by omega, by omega, by omega, rfl, (HRf.out 13 3).mono (by omega), HGf.out 13 3⟩
      · go_wp2_with fail
        obtain ⟨e0, e1, -, -, -⟩ := HEf.out 3 (-1)
        refine bodyPost_ret (v := .agg #[.int .i64 3, .int .i64 (-1)]) (by simp [results, Tryz.results50, go_sem, e0, e1]) rfl ?_
        exact ⟨3, -1, by omega, by omega, by omega, by omega, rfl, (HRf.out 3 (-1)).mono (by omega), HGf.out 3 (-1)⟩
      · go_wp2_with fail
        obtain ⟨e0, e1, -, -, -⟩ := HEf.out 3 17
        refine bodyPost_ret (v := .agg #[.int .i64 3, .int .i64 17]) (by simp [results, Tryz.results50, go_sem, e0, e1]) rfl ?_
        exact ⟨3, 17, by omega, by omega, by omega, by omega, rfl, (HRf.out 3 17).mono (by omega), HGf.out 3 17⟩


end Go.Proofs.YtidnnnjjpjadlaaGreatDoor

/- Drawn stored numbers. No condition: contracts for the walks of the laws. -/
namespace Go.Proofs.YtidnnnjjpjadlaaGreatDoor
open Go.ChangeShapes Go.WideShapes Go.ChangeAt Go.RowKit

theorem Rds.drewN {w0 w : World} {g N : Nat} (h : Rds w0 w g N) (n : Nat) : Rds w0 (w.drewN n) g N := by
  obtain ⟨h1, h2, a, len, cap, p, h3, h4, h5, h6, h7, h8⟩ := h
  exact ⟨h1, ⟨h2.os, h2.tape, h2.output, h2.size, h2.block⟩, a, len, cap, p, h3, h4, h5, h6, h7, h8⟩
def SPk : FuncId → List Ty → Option (Ty × Nat) := fun k tys => if k = 45 then sumPick tys else (fun _ _ => none) k tys
theorem SPk_ok (w0 : World) (C : Cx) : SOk SPk w0 C 999000 := (sok_cons (one_pick w0 C) (sok_nil w0 C 999000))
set_option maxHeartbeats 4000000 in
theorem l20stored_any {w0 w : World} {g N : Nat} {p q n : Int} (R0 : Rds w0 w g N) (hN : N ≤ 990000) (hn0 : 0 ≤ n) (hn1 : n ≤ 1000) :
    Calls Tryz.prog 51 #[.pointer (some ⟨g, 0, none⟩), .agg #[.int .i64 p, .int .i64 q], .int .i64 n] w (IntPost w0 w g (N + 24) (-268435457) 9223372036854775807) := by
  have hlt := R0.lt
  have hb0 := R0.below.size
  have hfin : ∀ (x : Int) (w' : World) (M : Nat), -268435457 ≤ x → x ≤ 9223372036854775807 → Rds w0 w' g M → M ≤ N + 24 → w.grownBy w' (some g) → IntPost w0 w g (N + 24) (-268435457) 9223372036854775807 (.returned (.int .i64 x)) w' := fun x w' M h1 h2 h3 hM h4 => ⟨x, h1, h2, rfl, h3.mono hM, h4⟩
  have HF := Lib.hid hfin
  clear hfin
  cases hv : fmtB p q
  · go_enter Tryz.func51, Tryz.ntmps51
    go_wp2_with fail
    refine (fmvb_spec hv _).mono ?_
    rintro e w1 ⟨rfl, mm, rfl⟩
    go_wp2_with fail
    refine (pick_any (((R0.alloc _).alloc _).drewN _) (by omega) (by omega) (by omega)).mono ?_
    rintro e w2 ⟨x, x0, x1, rfl, R2, G2⟩
    have GW := grownBy_trans (grownBy_drewN (grownBy_alloc (grownBy_alloc (grown_refl w (some g)) _) _) _) G2
    have HG := Lib.hid GW
    have HR := Lib.hid R2
    clear GW R2 G2 R0
    go_wp2_with fail
    go_ret
    exact HF.out _ _ _ (by omega) (by omega) HR.out (by omega) HG.out
  · obtain ⟨h1, h2, h3, h4⟩ := fmtB_mk hv
    obtain ⟨b1, b2⟩ := pw_bd h1 h2 h3 h4
    unfold pw at b1 b2
    go_enter Tryz.func51, Tryz.ntmps51
    go_wp2_with fail
    refine (fmvb_spec hv _).mono ?_
    rintro e w1 ⟨rfl, mm, rfl⟩
    have RW := ((R0.alloc (.cells #[.int .i64 p, .int .i64 q] 24)).alloc (.cells #[.int .i64 p, .int .i64 q] 24)).drewN mm
    have GW := grownBy_drewN (grownBy_alloc (grownBy_alloc (grown_refl w (some g)) (.cells #[.int .i64 p, .int .i64 q] 24)) (.cells #[.int .i64 p, .int .i64 q] 24)) mm
    have bf := (((Blk.new w 24 #[.int .i64 p, .int .i64 q]).alloc (.cells #[.int .i64 p, .int .i64 q] 24)).drewN mm)
    generalize ((w.alloc (.cells #[.int .i64 p, .int .i64 q] 24)).alloc (.cells #[.int .i64 p, .int .i64 q] 24)).drewN mm = W at *
    obtain ⟨c0, c1, c2, c3, lf⟩ := blk2 bf
    go_wp2_with fail
    obtain ⟨m, hm⟩ : ∃ m : Int, m = 2 ^ (p + q).toNat - 1 := ⟨_, rfl⟩
    rw [← hm]
    have m0 : 1 ≤ m := by omega
    have m1 : m ≤ 268435455 := by omega
    clear hm b1 b2
    refine wp_region_look (S := SPk) (w0 := w0) (g := g) (M := N) (cap := 999000) (c := 20) (fun t => if t = 0 then .rd else if t = 4 then .many 2 0 16 else if t = 7 then .val (.int 1 268435455) else .any)
      [(35, .val (.int (-268435456) 536870910))] (SPk_ok _ _) RW (by omega) (by kernel_rfl) ?_ ?_
    · intro t
      dsimp only
      repeat' split
      · rename_i h; subst h; rfl
      · rename_i h; subst h; exact ⟨_, 0, rfl, ⟨by dsimp only; omega, by simp⟩, fun i hi => by rcases (by omega : i = 0 ∨ i = 1) with rfl | rfl; exact ⟨p, c0, by omega, by omega⟩; exact ⟨q, c1, by omega, by omega⟩⟩
      · rename_i h; subst h; exact ⟨_, rfl, m0, m1⟩
      · trivial
    · intro vs wv hv hR hG
      simp only [List.forall_mem_cons, List.not_mem_nil, false_implies, implies_true, and_true] at hv
      obtain ⟨x, hx, x0, x1⟩ := hv
      have RV := hR; have GV := grownBy_trans GW hG; clear hR hG RW GW c0 c1 c2 c3 lf bf
      simp only [putAll, Act.put, Nat.reduceAdd, hx, List.setIfInBounds_toArray, List.set_cons_zero, List.set_cons_succ]
    
      go_wp2_with fail
      all_goals
        refine (odd_any0 RV (by omega) hn0 (by omega)).mono ?_
        rintro e w6 ⟨o, rfl, R6, G6⟩
        have G7 := grownBy_trans GV G6
        cases o
        · have HR := Lib.hid R6
          have HG := Lib.hid G7
          clear R6 G6 G7 GV RV
          go_wp2_with fail
          go_ret
          exact HF.out _ _ _ (by omega) (by omega) HR.out (by omega) HG.out
        · go_wp2_with fail
          refine (pick_any (R6.alloc _) (by omega) (by omega) (by omega)).mono ?_
          rintro e w8 ⟨y, y0, y1, rfl, R8, G8⟩
          have hl6 := R6.lt
          have bA := (Blk.new w6 _ _).grown G8 (by intro e; injection e with e; first | omega | (simp at e; omega))
          obtain ⟨u, u0, u1, cu⟩ := draw_cell (l := [m + 1, -m - 2, 9223372036854775807]) (lo := -268435457) (hi := 9223372036854775807) bA (by simp only [List.mem_cons, List.not_mem_nil, or_false]; rintro y hy; omega) y0 (by simpa using y1)
          have HR := Lib.hid R8
          have HG := Lib.hid (grownBy_trans (grownBy_alloc G7 _) G8)
          clear R6 G6 G7 GV RV bA R8 G8
          go_wp2_with fail
          go_ret
          exact HF.out _ _ _ u0 u1 HR.out (by omega) HG.out

end Go.Proofs.YtidnnnjjpjadlaaGreatDoor
