/- The drawing functions of square tables. No condition: contracts for the walks of the laws. -/
import Derived.Test.YthfgfbaoeklhnaaPick
import Derived.Test.YthfgfbaoeklhnaaSq
namespace Go.Proofs.Ythfgfbaoeklhnaa
open Go.ChangeShapes Go.WideShapes Go.ChangeAt Go.RowKit


/-- What a function leaves that draws a square table. -/
def SqDPost (w0 w : World) (g N : Nat) (e : Ending) (w' : World) : Prop :=
  ∃ a b c d : Int, (-1000000001 ≤ a ∧ a ≤ 1000000001) ∧ (-1000000001 ≤ b ∧ b ≤ 1000000001) ∧ (-1000000001 ≤ c ∧ c ≤ 1000000001) ∧ (-1000000001 ≤ d ∧ d ≤ 1000000001) ∧ e = .returned (.agg #[.int .i64 a, .int .i64 b, .int .i64 c, .int .i64 d]) ∧ Rds w0 w' g N ∧ w.grownBy w' (some g)

set_option maxHeartbeats 2000000 in
theorem l20squaretable_any {w0 w : World} {g N : Nat} {n : Int} (R0 : Rds w0 w g N) (hN : N ≤ 999000) (hn1 : 1 ≤ n) (hn2 : n ≤ 1000) :
    Calls Try.prog 46 #[.pointer (some ⟨g, 0, none⟩), .int .i64 n] w (SqDPost w0 w g (N + 8)) := by
  have hfin : ∀ (a b c d : Int) (w' : World), (-1000000001 ≤ a ∧ a ≤ 1000000001) → (-1000000001 ≤ b ∧ b ≤ 1000000001) → (-1000000001 ≤ c ∧ c ≤ 1000000001) → (-1000000001 ≤ d ∧ d ≤ 1000000001) → Rds w0 w' g (N + 8) → w.grownBy w' (some g) → SqDPost w0 w g (N + 8) (.returned (.agg #[.int .i64 a, .int .i64 b, .int .i64 c, .int .i64 d])) w' := fun a b c d w' h1 h2 h3 h4 h5 h6 => ⟨a, b, c, d, h1, h2, h3, h4, rfl, h5, h6⟩
  have HF := Lib.hid hfin
  clear hfin
  have hgl := R0.lt
  have hRb := R0.below.size
  go_enter Try.func46, Try.ntmps46
  go_wp2_with fail
  refine (pick_any (R0.alloc _) (by omega) (by omega) (by omega)).mono ?_
  rintro e w1 ⟨x1, hx10, hx11, rfl, R1, G1⟩
  go_wp2_with fail
  refine (pick_any R1 (by omega) (by omega) (by omega)).mono ?_
  rintro e w2 ⟨x2, hx20, hx21, rfl, R2, G2⟩
  go_wp2_with fail
  refine (pick_any R2 (by omega) (by omega) (by omega)).mono ?_
  rintro e w3 ⟨x3, hx30, hx31, rfl, R3, G3⟩
  go_wp2_with fail
  refine (pick_any R3 (by omega) (by omega) (by omega)).mono ?_
  rintro e w4 ⟨x4, hx40, hx41, rfl, R4, G4⟩
  go_wp2_with fail
  refine (pick_any (R4.alloc _) (by omega) (by omega) (by omega)).mono ?_
  rintro e w5 ⟨x5, hx50, hx51, rfl, R5, G5⟩
  have hg4 := R4.lt
  have bz := ((((((Blk.new w 25 #[.int .i64 0, .int .i64 0, .int .i64 0, .int .i64 0]).grown G1 (by intro e; injection e with e; omega)).grown G2 (by intro e; injection e with e; omega)).grown G3 (by intro e; injection e with e; omega)).grown G4 (by intro e; injection e with e; omega)).alloc (.cells #[.int .i64 (x1 - 4), .int .i64 (x2 - 4), .int .i64 (x3 - 4), .int .i64 (x4 - 4)] 25)).grown G5 (by intro e; injection e with e; omega)
  have bs := (Blk.new w4 25 #[.int .i64 (x1 - 4), .int .i64 (x2 - 4), .int .i64 (x3 - 4), .int .i64 (x4 - 4)]).grown G5 (by intro e; injection e with e; omega)
  have hG := grownBy_trans (grownBy_alloc (grownBy_trans (grownBy_trans (grownBy_trans (grownBy_trans (grownBy_alloc (World.grownBy.refl w (some g)) _) G1) G2) G3) G4) _) G5
  have hs4 : w.heap.size < w4.heap.size := by have h1 := G1.size; have h2 := G2.size; have h3 := G3.size; have h4 := G4.size; simp at h1; omega
  have hR5 := R5
  have hw0 : w0.heap.size ≤ w4.heap.size := by have h1 := R4.1; have h2 := R4.lt; omega
  clear R0 R1 R2 R3 R4 R5 G1 G2 G3 G4 G5
  have hzw : w0.heap.size ≤ w.heap.size := hRb
  by_cases h5 : x5 = 0
  · subst h5
    go_wp2_with fail
    refine (pick_any (hR5.alloc _) (by omega) (by omega) (by omega)).mono ?_
    rintro e w6 ⟨x6, hx60, hx61, rfl, R6, G6⟩
    have hl5 := hR5.lt
    have bz6 := (bz.alloc _).grown G6 (by intro e; injection e with e; omega)
    have bs6 := (bs.alloc _).grown G6 (by intro e; injection e with e; omega)
    have bl6 := (Blk.new w5 _ _).grown G6 (by intro e; injection e with e; omega)
    obtain ⟨v, hv0, hv1, cv⟩ := draw_cell (l := [1000000000, -1000000000, 30000]) (lo := -1000000000) (hi := 1000000000) bl6 (by decide) hx60 (by simpa using hx61)
    obtain ⟨c0, c1, c2, c3, f0, f1, f2, f3, ls⟩ := blk4 bs6
    have hG6 := grownBy_setCell (grownBy_trans (grownBy_alloc hG _) G6) (p := ⟨w4.heap.size, 0, none⟩) (by dsimp only; omega) (.int .i64 v)
    go_wp2_with fail
    refine (odd_any (R6.setCell (q := ⟨w4.heap.size, 0, none⟩) hw0 (by dsimp only; omega) (.int .i64 v)) (by omega) (by omega) (by omega)).mono ?_
    rintro e w7 ⟨b, rfl, R7, G7⟩
    have bz7 := (bz6.far (p := ⟨w4.heap.size, 0, none⟩) (by dsimp only; omega) (.int .i64 v)).grown G7 (by intro e; injection e with e; omega)
    have bs7 := (bs6.set 0 (.int .i64 v)).grown G7 (by intro e; injection e with e; omega)
    have hG7 := grownBy_trans hG6 G7
    clear c0 c1 c2 c3 f0 f1 f2 f3 ls bz6 bs6 bl6 G6 G7 hG6 R6 bz bs hG hR5 cv
    obtain ⟨c0, c1, c2, c3, -, -, -, -, ls⟩ := blk4 (show Blk w7 w4.heap.size 25 #[.int .i64 v, .int .i64 (x2 - 4), .int .i64 (x3 - 4), .int .i64 (x4 - 4)] from bs7)
    obtain ⟨d0, d1, d2, d3, e0, e1, e2, e3, lz⟩ := blk4 bz7
    have hl7 := R7.lt
    cases b
    · have HE := Lib.hid (HF.out v (x2 - 4) (x3 - 4) (x4 - 4) _ (by omega) (by omega) (by omega) (by omega) (((((R7.setCell (q := ⟨w.heap.size, 0, none⟩) hzw (by dsimp only; omega) (.int .i64 v)).setCell (q := ⟨w.heap.size, 1, none⟩) hzw (by dsimp only; omega) (.int .i64 (x2 - 4))).setCell (q := ⟨w.heap.size, 2, none⟩) hzw (by dsimp only; omega) (.int .i64 (x3 - 4))).setCell (q := ⟨w.heap.size, 3, none⟩) hzw (by dsimp only; omega) (.int .i64 (x4 - 4))).mono (by omega))
        (grownBy_setCell (grownBy_setCell (grownBy_setCell (grownBy_setCell hG7 (p := ⟨w.heap.size, 0, none⟩) (Nat.le_refl _) (.int .i64 v)) (p := ⟨w.heap.size, 1, none⟩) (Nat.le_refl _) (.int .i64 (x2 - 4))) (p := ⟨w.heap.size, 2, none⟩) (Nat.le_refl _) (.int .i64 (x3 - 4))) (p := ⟨w.heap.size, 3, none⟩) (Nat.le_refl _) (.int .i64 (x4 - 4))))
      clear bz7 bs7 hG7 R7
      go_wp2_with fail
      refine bodyPost_ret (v := .agg #[.int .i64 v, .int .i64 (x2 - 4), .int .i64 (x3 - 4), .int .i64 (x4 - 4)]) (by simp [results, Try.results46, go_sem, d0, d1, d2, d3]) rfl ?_
      exact HE.out
    · go_wp2_with fail
      refine (pick_any (R7.alloc _) (by omega) (by omega) (by omega)).mono ?_
      rintro e w8 ⟨x8, hx80, hx81, rfl, R8, G8⟩
      have hl8 := R8.lt
      have bz8 := (bz7.alloc _).grown G8 (by intro e; injection e with e; omega)
      have bl8 := (Blk.new w7 _ _).grown G8 (by intro e; injection e with e; omega)
      have hG8 := grownBy_trans (grownBy_alloc hG7 _) G8
      clear d0 d1 d2 d3 e0 e1 e2 e3 lz c0 c1 c2 c3 ls bz7 bs7 hG7 R7 G8
      obtain ⟨d0, d1, d2, d3, e0, e1, e2, e3, lz⟩ := blk4 bz8
      have fin := fun (p q r t : Int) h1 h2 h3 h4 => HF.out p q r t _ h1 h2 h3 h4 (((((R8.setCell (q := ⟨w.heap.size, 0, none⟩) hzw (by dsimp only; omega) (.int .i64 p)).setCell (q := ⟨w.heap.size, 1, none⟩) hzw (by dsimp only; omega) (.int .i64 q)).setCell (q := ⟨w.heap.size, 2, none⟩) hzw (by dsimp only; omega) (.int .i64 r)).setCell (q := ⟨w.heap.size, 3, none⟩) hzw (by dsimp only; omega) (.int .i64 t)).mono (by omega))
        (grownBy_setCell (grownBy_setCell (grownBy_setCell (grownBy_setCell hG8 (p := ⟨w.heap.size, 0, none⟩) (Nat.le_refl _) (.int .i64 p)) (p := ⟨w.heap.size, 1, none⟩) (Nat.le_refl _) (.int .i64 q)) (p := ⟨w.heap.size, 2, none⟩) (Nat.le_refl _) (.int .i64 r)) (p := ⟨w.heap.size, 3, none⟩) (Nat.le_refl _) (.int .i64 t))
      have HE := Lib.hid fin
      have HB := Lib.hid bl8
      clear bz8 hG8 R8 fin bl8
      rcases (by omega : x8 = 0 ∨ x8 = 1 ∨ x8 = 2 ∨ x8 = 3) with rfl | rfl | rfl | rfl
      · have q0 := HB.out.cell 0
        have q1 := HB.out.cell 1
        have q2 := HB.out.cell 2
        have q3 := HB.out.cell 3
        simp only [List.getElem?_toArray, List.getElem?_cons_zero, List.getElem?_cons_succ] at q0 q1 q2 q3
        go_wp2_with fail
        refine bodyPost_ret (v := .agg #[.int .i64 1000000001, .int .i64 0, .int .i64 0, .int .i64 0]) (by simp [results, Try.results46, go_sem, d0, d1, d2, d3]) rfl ?_
        exact HE.out _ _ _ _ (by omega) (by omega) (by omega) (by omega)
      · have q0 := HB.out.cell 4
        have q1 := HB.out.cell 5
        have q2 := HB.out.cell 6
        have q3 := HB.out.cell 7
        simp only [List.getElem?_toArray, List.getElem?_cons_zero, List.getElem?_cons_succ] at q0 q1 q2 q3
        go_wp2_with fail
        refine bodyPost_ret (v := .agg #[.int .i64 0, .int .i64 (-1000000001), .int .i64 0, .int .i64 0]) (by simp [results, Try.results46, go_sem, d0, d1, d2, d3]) rfl ?_
        exact HE.out _ _ _ _ (by omega) (by omega) (by omega) (by omega)
      · have q0 := HB.out.cell 8
        have q1 := HB.out.cell 9
        have q2 := HB.out.cell 10
        have q3 := HB.out.cell 11
        simp only [List.getElem?_toArray, List.getElem?_cons_zero, List.getElem?_cons_succ] at q0 q1 q2 q3
        go_wp2_with fail
        refine bodyPost_ret (v := .agg #[.int .i64 0, .int .i64 0, .int .i64 1000000001, .int .i64 0]) (by simp [results, Try.results46, go_sem, d0, d1, d2, d3]) rfl ?_
        exact HE.out _ _ _ _ (by omega) (by omega) (by omega) (by omega)
      · have q0 := HB.out.cell 12
        have q1 := HB.out.cell 13
        have q2 := HB.out.cell 14
        have q3 := HB.out.cell 15
        simp only [List.getElem?_toArray, List.getElem?_cons_zero, List.getElem?_cons_succ] at q0 q1 q2 q3
        go_wp2_with fail
        refine bodyPost_ret (v := .agg #[.int .i64 0, .int .i64 0, .int .i64 0, .int .i64 1000000001]) (by simp [results, Try.results46, go_sem, d0, d1, d2, d3]) rfl ?_
        exact HE.out _ _ _ _ (by omega) (by omega) (by omega) (by omega)
  · have h5' : (x5 == 0) = false := by simp; omega
    go_wp2_with fail
    refine (odd_any hR5 (by omega) (by omega) (by omega)).mono ?_
    rintro e w7 ⟨b, rfl, R7, G7⟩
    have hl5 := hR5.lt
    have bz7 := bz.grown G7 (by intro e; injection e with e; omega)
    have bs7 := bs.grown G7 (by intro e; injection e with e; omega)
    have hG7 := grownBy_trans hG G7
    clear G7 bz bs hG hR5
    obtain ⟨c0, c1, c2, c3, -, -, -, -, ls⟩ := blk4 (show Blk w7 w4.heap.size 25 #[.int .i64 (x1 - 4), .int .i64 (x2 - 4), .int .i64 (x3 - 4), .int .i64 (x4 - 4)] from bs7)
    obtain ⟨d0, d1, d2, d3, e0, e1, e2, e3, lz⟩ := blk4 bz7
    have hl7 := R7.lt
    cases b
    · have HE := Lib.hid (HF.out (x1 - 4) (x2 - 4) (x3 - 4) (x4 - 4) _ (by omega) (by omega) (by omega) (by omega) (((((R7.setCell (q := ⟨w.heap.size, 0, none⟩) hzw (by dsimp only; omega) (.int .i64 (x1 - 4))).setCell (q := ⟨w.heap.size, 1, none⟩) hzw (by dsimp only; omega) (.int .i64 (x2 - 4))).setCell (q := ⟨w.heap.size, 2, none⟩) hzw (by dsimp only; omega) (.int .i64 (x3 - 4))).setCell (q := ⟨w.heap.size, 3, none⟩) hzw (by dsimp only; omega) (.int .i64 (x4 - 4))).mono (by omega))
        (grownBy_setCell (grownBy_setCell (grownBy_setCell (grownBy_setCell hG7 (p := ⟨w.heap.size, 0, none⟩) (Nat.le_refl _) (.int .i64 (x1 - 4))) (p := ⟨w.heap.size, 1, none⟩) (Nat.le_refl _) (.int .i64 (x2 - 4))) (p := ⟨w.heap.size, 2, none⟩) (Nat.le_refl _) (.int .i64 (x3 - 4))) (p := ⟨w.heap.size, 3, none⟩) (Nat.le_refl _) (.int .i64 (x4 - 4))))
      clear bz7 bs7 hG7 R7
      go_wp2_with fail
      refine bodyPost_ret (v := .agg #[.int .i64 (x1 - 4), .int .i64 (x2 - 4), .int .i64 (x3 - 4), .int .i64 (x4 - 4)]) (by simp [results, Try.results46, go_sem, d0, d1, d2, d3]) rfl ?_
      exact HE.out
    · go_wp2_with fail
      refine (pick_any (R7.alloc _) (by omega) (by omega) (by omega)).mono ?_
      rintro e w8 ⟨x8, hx80, hx81, rfl, R8, G8⟩
      have hl8 := R8.lt
      have bz8 := (bz7.alloc _).grown G8 (by intro e; injection e with e; omega)
      have bl8 := (Blk.new w7 _ _).grown G8 (by intro e; injection e with e; omega)
      have hG8 := grownBy_trans (grownBy_alloc hG7 _) G8
      clear d0 d1 d2 d3 e0 e1 e2 e3 lz c0 c1 c2 c3 ls bz7 bs7 hG7 R7 G8
      obtain ⟨d0, d1, d2, d3, e0, e1, e2, e3, lz⟩ := blk4 bz8
      have fin := fun (p q r t : Int) h1 h2 h3 h4 => HF.out p q r t _ h1 h2 h3 h4 (((((R8.setCell (q := ⟨w.heap.size, 0, none⟩) hzw (by dsimp only; omega) (.int .i64 p)).setCell (q := ⟨w.heap.size, 1, none⟩) hzw (by dsimp only; omega) (.int .i64 q)).setCell (q := ⟨w.heap.size, 2, none⟩) hzw (by dsimp only; omega) (.int .i64 r)).setCell (q := ⟨w.heap.size, 3, none⟩) hzw (by dsimp only; omega) (.int .i64 t)).mono (by omega))
        (grownBy_setCell (grownBy_setCell (grownBy_setCell (grownBy_setCell hG8 (p := ⟨w.heap.size, 0, none⟩) (Nat.le_refl _) (.int .i64 p)) (p := ⟨w.heap.size, 1, none⟩) (Nat.le_refl _) (.int .i64 q)) (p := ⟨w.heap.size, 2, none⟩) (Nat.le_refl _) (.int .i64 r)) (p := ⟨w.heap.size, 3, none⟩) (Nat.le_refl _) (.int .i64 t))
      have HE := Lib.hid fin
      have HB := Lib.hid bl8
      clear bz8 hG8 R8 fin bl8
      rcases (by omega : x8 = 0 ∨ x8 = 1 ∨ x8 = 2 ∨ x8 = 3) with rfl | rfl | rfl | rfl
      · have q0 := HB.out.cell 0
        have q1 := HB.out.cell 1
        have q2 := HB.out.cell 2
        have q3 := HB.out.cell 3
        simp only [List.getElem?_toArray, List.getElem?_cons_zero, List.getElem?_cons_succ] at q0 q1 q2 q3
        go_wp2_with fail
        refine bodyPost_ret (v := .agg #[.int .i64 1000000001, .int .i64 0, .int .i64 0, .int .i64 0]) (by simp [results, Try.results46, go_sem, d0, d1, d2, d3]) rfl ?_
        exact HE.out _ _ _ _ (by omega) (by omega) (by omega) (by omega)
      · have q0 := HB.out.cell 4
        have q1 := HB.out.cell 5
        have q2 := HB.out.cell 6
        have q3 := HB.out.cell 7
        simp only [List.getElem?_toArray, List.getElem?_cons_zero, List.getElem?_cons_succ] at q0 q1 q2 q3
        go_wp2_with fail
        refine bodyPost_ret (v := .agg #[.int .i64 0, .int .i64 (-1000000001), .int .i64 0, .int .i64 0]) (by simp [results, Try.results46, go_sem, d0, d1, d2, d3]) rfl ?_
        exact HE.out _ _ _ _ (by omega) (by omega) (by omega) (by omega)
      · have q0 := HB.out.cell 8
        have q1 := HB.out.cell 9
        have q2 := HB.out.cell 10
        have q3 := HB.out.cell 11
        simp only [List.getElem?_toArray, List.getElem?_cons_zero, List.getElem?_cons_succ] at q0 q1 q2 q3
        go_wp2_with fail
        refine bodyPost_ret (v := .agg #[.int .i64 0, .int .i64 0, .int .i64 1000000001, .int .i64 0]) (by simp [results, Try.results46, go_sem, d0, d1, d2, d3]) rfl ?_
        exact HE.out _ _ _ _ (by omega) (by omega) (by omega) (by omega)
      · have q0 := HB.out.cell 12
        have q1 := HB.out.cell 13
        have q2 := HB.out.cell 14
        have q3 := HB.out.cell 15
        simp only [List.getElem?_toArray, List.getElem?_cons_zero, List.getElem?_cons_succ] at q0 q1 q2 q3
        go_wp2_with fail
        refine bodyPost_ret (v := .agg #[.int .i64 0, .int .i64 0, .int .i64 0, .int .i64 1000000001]) (by simp [results, Try.results46, go_sem, d0, d1, d2, d3]) rfl ?_
        exact HE.out _ _ _ _ (by omega) (by omega) (by omega) (by omega)

end Go.Proofs.Ythfgfbaoeklhnaa
