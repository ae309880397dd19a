/- The drawing function of fractions. No condition: contracts for the walks of the laws. -/
import Derived.Test.YtdpekaejklmomaaPick
import Derived.Test.YtdpekaejklmomaaFrac
namespace Go.Proofs.Ytdpekaejklmomaa
open Go.ChangeShapes Go.WideShapes Go.ChangeAt Go.RowKit


attribute [local go_sem] alloc_drewN' setCell_drewN'
/-- What a function leaves that draws a fraction. -/
def FrDPost (w0 w : World) (g N : Nat) (e : Ending) (w' : World) : Prop :=
  ∃ a b : Int, (-1000001 ≤ a ∧ a ≤ 1000001 ∧ -1000001 ≤ b ∧ b ≤ 1000001) ∧ e = .returned (.agg #[.int .i64 a, .int .i64 b]) ∧ Rds w0 w' g N ∧ w.grownBy w' (some g)
theorem redF_bds {t l p q : Int} {o : Bool} (h : redF t l = ((p, q), o)) : -1000001 ≤ p ∧ p ≤ 1000001 ∧ -1000001 ≤ q ∧ q ≤ 1000001 := by
  have aux : ∀ {p' q' : Int}, (if frOk p' q' then ((p', q'), true) else ((0, 0), false)) = ((p, q), o) → -1000001 ≤ p ∧ p ≤ 1000001 ∧ -1000001 ≤ q ∧ q ≤ 1000001 := by
    intro p' q' h
    split at h
    · rename_i hk
      have := frOk_mk hk
      simp only [Prod.mk.injEq] at h
      omega
    · simp only [Prod.mk.injEq] at h
      omega
  unfold redF at h
  split at h
  · unfold mkF at h
    split at h <;> exact aux h
  · simp only [Prod.mk.injEq] at h
    omega
theorem Rds.behind {w0 w w' : World} {g N : Nat} (h : Rds w0 w g N) (hb : Below w.heap.size w w') : Rds w0 w' g N :=
  h.grown (grownBy_below (World.grownBy.refl w none) hb) (by intro k hk; cases hk)

set_option maxHeartbeats 400000 in
theorem odd_any00 {w0 w : World} {g N : Nat} {n : Int} (hR : Rds w0 w g N) (hN : N ≤ 1000000) (h1 : 0 ≤ n) (h2 : n ≤ 1000000) :
    Calls Try.prog 53 #[.pointer (some ⟨g, 0, none⟩), .int .i64 n] w (OddPost w0 w g N) := by
  rcases (by omega : n = 0 ∨ 1 ≤ n) with rfl | h
  · have HF := Lib.hid (show OddPost w0 w g N (.returned (.bool false)) w from ⟨false, rfl, hR.mono (by omega), World.grownBy.refl _ _⟩)
    clear hR
    go_enter Try.func53, Try.ntmps53
    go_wp2
    go_ret
    exact HF.out
  · exact odd_any hR hN h h2
set_option maxHeartbeats 2000000 in
theorem l20fraction_any {w0 w : World} {g N : Nat} {n : Int} (R0 : Rds w0 w g N) (hN : N ≤ 999000) (hn1 : 0 ≤ n) (hn2 : n ≤ 1000) :
    Calls Try.prog 57 #[.pointer (some ⟨g, 0, none⟩), .int .i64 n] w (FrDPost w0 w g (N + 8)) := by
  have hfin : ∀ (a b : Int) (w' : World), (-1000001 ≤ a ∧ a ≤ 1000001 ∧ -1000001 ≤ b ∧ b ≤ 1000001) → Rds w0 w' g (N + 8) → w.grownBy w' (some g) → FrDPost w0 w g (N + 8) (.returned (.agg #[.int .i64 a, .int .i64 b])) w' := fun a b w' h1 h5 h6 => ⟨a, b, h1, rfl, h5, h6⟩
  have HF := Lib.hid hfin
  clear hfin
  have hgl := R0.lt
  have hzw : w0.heap.size ≤ w.heap.size := R0.below.size
  go_enter Try.func57, Try.ntmps57
  go_wp2_with fail
  refine (pick_any (R0.alloc _) (by omega) (by omega) (by omega)).mono ?_
  rintro e w1 ⟨x1, hx10, hx11, rfl, R1, G1⟩
  go_wp2_with fail
  refine (pick_any R1 (by omega) (by omega) (by omega)).mono ?_
  rintro e w2 ⟨x2, hx20, hx21, rfl, R2, G2⟩
  go_wp2_with fail
  refine (red_spec _ _ _).mono ?_
  rintro e w3 ⟨p, q, o, rfl, hm, hb3⟩
  have hpq := redF_bds hm
  have R3 := R2.behind hb3
  have bz3 := ((((Blk.new w 41 #[.int .i64 0, .int .i64 0]).grown G1 (by intro e; injection e with e; omega)).grown G2 (by intro e; injection e with e; omega))).below hb3 (by have h1 := G1.size; have h2 := G2.size; simp at h1; omega)
  have hG3 := grownBy_below (grownBy_trans (grownBy_trans (grownBy_alloc (World.grownBy.refl w (some g)) _) G1) G2) hb3
  have hg3 : g < w3.heap.size := R3.lt
  have bx3 := Blk.new w3 41 #[.int .i64 p, .int .i64 q]
  have bz3 := bz3.alloc (.cells #[.int .i64 p, .int .i64 q] 41)
  have hG3 := grownBy_alloc hG3 (.cells #[.int .i64 p, .int .i64 q] 41)
  have hwz : w.heap.size < w3.heap.size := by have h1 := bz3.lt; have h2 := R1.1; have h3 := G1.size; have h4 := G2.size; have h5 := hb3.size; simp at h3; omega
  obtain ⟨d0, d1, e0, e1, lz⟩ := blk2 bz3
  obtain ⟨c0, c1, f0, f1, lx⟩ := blk2 bx3
  have RA := R3.alloc (.cells #[.int .i64 p, .int .i64 q] 41)
  have hs3 : (w3.alloc (.cells #[.int .i64 p, .int .i64 q] 41)).heap.size = w3.heap.size + 1 := by simp
  clear hb3 G1 G2 R1 R2 R3 R0 hm
  go_wp2_with fail
  refine (pick_any RA (by omega) (by omega) (by omega)).mono ?_
  rintro e w4 ⟨x3, hx30, hx31, rfl, R4, G4⟩
  have bz4 := bz3.grown G4 (by intro e; injection e with e; omega)
  have bx4 := bx3.grown G4 (by intro e; injection e with e; omega)
  have hG4 := grownBy_trans hG3 G4
  clear d0 d1 e0 e1 lz c0 c1 f0 f1 lx
  obtain ⟨c0, c1, f0, f1, lx⟩ := blk2 bx4
  obtain ⟨d0, d1, e0, e1, lz⟩ := blk2 bz4
  have hl4 := R4.lt
  have ne1 := Nat.ne_of_gt hwz
  have ne2 := Nat.ne_of_lt hwz
  have hw0x : w0.heap.size ≤ w3.heap.size := by omega
  clear bz3 bx3 hG3 G4 RA
  by_cases h3 : x3 = 0
  · subst h3
    go_wp2_with fail
    refine (pick_any R4 (by omega) (by omega) (by omega)).mono ?_
    rintro e w5 ⟨x5, hx50, hx51, rfl, R5, G5⟩
    go_wp2_with fail
    refine (pick_any R5 (by omega) (by omega) (by omega)).mono ?_
    rintro e w6 ⟨x6, hx60, hx61, rfl, R6, G6⟩
    go_wp2_with fail
    refine (red_spec _ _ _).mono ?_
    rintro e w7 ⟨p7, q7, o7, rfl, hm7, hb7⟩
    have hpq7 := redF_bds hm7
    have R7 := R6.behind hb7
    have bz7 := ((bz4.grown G5 (by intro e; injection e with e; omega)).grown G6 (by intro e; injection e with e; omega)).below hb7 (by have h1 := G5.size; have h2 := G6.size; omega)
    have bx7 := ((bx4.grown G5 (by intro e; injection e with e; omega)).grown G6 (by intro e; injection e with e; omega)).below hb7 (by have h1 := G5.size; have h2 := G6.size; omega)
    have hG7 := grownBy_below (grownBy_trans (grownBy_trans hG4 G5) G6) hb7
    clear d0 d1 e0 e1 lz c0 c1 f0 f1 lx bz4 bx4 hG4 G5 G6 hb7 R4 R5 R6 hpq hm7
    obtain ⟨c0, c1, f0, f1, lx⟩ := blk2 bx7
    obtain ⟨d0, d1, e0, e1, lz⟩ := blk2 bz7
    have bx7 := (bx7.set 0 (.int .i64 p7)).set 1 (.int .i64 q7)
    have bz7 := (bz7.far (p := ⟨w3.heap.size, 0, none⟩) ne2 (.int .i64 p7)).far (p := ⟨w3.heap.size, 1, none⟩) ne2 (.int .i64 q7)
    have hG7 := grownBy_setCell (grownBy_setCell hG7 (p := ⟨w3.heap.size, 0, none⟩) (Nat.le_of_lt hwz) (.int .i64 p7)) (p := ⟨w3.heap.size, 1, none⟩) (Nat.le_of_lt hwz) (.int .i64 q7)
    have RB := (R7.setCell (q := ⟨w3.heap.size, 0, none⟩) hw0x (Nat.ne_of_lt hg3) (.int .i64 p7)).setCell (q := ⟨w3.heap.size, 1, none⟩) hw0x (Nat.ne_of_lt hg3) (.int .i64 q7)
    go_wp2_with fail
    refine (odd_any00 RB (by omega) (by omega) (by omega)).mono ?_
    rintro e w8 ⟨b, rfl, R8, G8⟩
    have hl7 := (RB).lt
    have bz8 := bz7.grown G8 (by intro e; injection e with e; omega)
    have bx8 := bx7.grown G8 (by intro e; injection e with e; omega)
    have hG8 := grownBy_trans hG7 G8
    clear c0 c1 f0 f1 lx d0 d1 e0 e1 lz
    obtain ⟨c0, c1, f0, f1, lx⟩ := blk2 bx8
    obtain ⟨d0, d1, e0, e1, lz⟩ := blk2 bz8
    have hl8 := R8.lt
    clear bx7 bz7 hG7 G8
    cases b
    · have HE := Lib.hid (HF.out p7 q7 _ hpq7 (((R8.setCell (q := ⟨w.heap.size, 0, none⟩) hzw (by dsimp only; omega) (.int .i64 p7)).setCell (q := ⟨w.heap.size, 1, none⟩) hzw (by dsimp only; omega) (.int .i64 q7)).mono (by omega)) (grownBy_setCell (grownBy_setCell hG8 (p := ⟨w.heap.size, 0, none⟩) (Nat.le_refl _) (.int .i64 p7)) (p := ⟨w.heap.size, 1, none⟩) (Nat.le_refl _) (.int .i64 q7)))
      clear bx8 bz8 hG8 R8
      go_wp2_with fail
      refine bodyPost_ret (v := .agg #[.int .i64 p7, .int .i64 q7]) (by simp [results, Try.results57, go_sem, d0, d1]) rfl ?_
      exact HE.out
    · go_wp2_with fail
      refine (pick_any (R8.alloc _) (by omega) (by omega) (by omega)).mono ?_
      rintro e w9 ⟨y, hy0, hy1, rfl, R9, G9⟩
      have hl9 := R9.lt
      have bz9 := (bz8.alloc _).grown G9 (by intro e; injection e with e; omega)
      have bl := (Blk.new w8 _ _).grown G9 (by intro e; injection e with e; omega)
      have hG9 := grownBy_trans (grownBy_alloc hG8 _) G9
      clear d0 d1 e0 e1 lz c0 c1 f0 f1 lx bz8 bx8 hG8 R8 G9
      obtain ⟨d0, d1, e0, e1, lz⟩ := blk2 bz9
      have fin := fun (p7 q7 : Int) h => HF.out p7 q7 _ h (((R9.setCell (q := ⟨w.heap.size, 0, none⟩) hzw (by dsimp only; omega) (.int .i64 p7)).setCell (q := ⟨w.heap.size, 1, none⟩) hzw (by dsimp only; omega) (.int .i64 q7)).mono (by omega)) (grownBy_setCell (grownBy_setCell hG9 (p := ⟨w.heap.size, 0, none⟩) (Nat.le_refl _) (.int .i64 p7)) (p := ⟨w.heap.size, 1, none⟩) (Nat.le_refl _) (.int .i64 q7))
      have HE := Lib.hid fin
      have HB := Lib.hid bl
      clear bz9 hG9 R9 fin bl
      rcases (by omega : y = 0 ∨ y = 1 ∨ y = 2 ∨ y = 3 ∨ y = 4) with rfl | rfl | rfl | rfl | rfl
      · have q0 := HB.out.cell 0
        have q1 := HB.out.cell 1
        simp only [List.getElem?_toArray, List.getElem?_cons_zero, List.getElem?_cons_succ] at q0 q1
        go_wp2_with fail
        refine bodyPost_ret (v := .agg #[.int .i64 0, .int .i64 0]) (by simp [results, Try.results57, go_sem, d0, d1]) rfl ?_
        exact HE.out _ _ (by omega)
      · have q0 := HB.out.cell 2
        have q1 := HB.out.cell 3
        simp only [List.getElem?_toArray, List.getElem?_cons_zero, List.getElem?_cons_succ] at q0 q1
        go_wp2_with fail
        refine bodyPost_ret (v := .agg #[.int .i64 2, .int .i64 4]) (by simp [results, Try.results57, go_sem, d0, d1]) rfl ?_
        exact HE.out _ _ (by omega)
      · have q0 := HB.out.cell 4
        have q1 := HB.out.cell 5
        simp only [List.getElem?_toArray, List.getElem?_cons_zero, List.getElem?_cons_succ] at q0 q1
        go_wp2_with fail
        refine bodyPost_ret (v := .agg #[.int .i64 1, .int .i64 (-3)]) (by simp [results, Try.results57, go_sem, d0, d1]) rfl ?_
        exact HE.out _ _ (by omega)
      · have q0 := HB.out.cell 6
        have q1 := HB.out.cell 7
        simp only [List.getElem?_toArray, List.getElem?_cons_zero, List.getElem?_cons_succ] at q0 q1
        go_wp2_with fail
        refine bodyPost_ret (v := .agg #[.int .i64 1000001, .int .i64 1]) (by simp [results, Try.results57, go_sem, d0, d1]) rfl ?_
        exact HE.out _ _ (by omega)
      · have q0 := HB.out.cell 8
        have q1 := HB.out.cell 9
        simp only [List.getElem?_toArray, List.getElem?_cons_zero, List.getElem?_cons_succ] at q0 q1
        go_wp2_with fail
        refine bodyPost_ret (v := .agg #[.int .i64 0, .int .i64 2]) (by simp [results, Try.results57, go_sem, d0, d1]) rfl ?_
        exact HE.out _ _ (by omega)
  · have h3' : (x3 == 0) = false := by simpa using h3
    go_wp2_with fail
    refine (odd_any00 R4 (by omega) (by omega) (by omega)).mono ?_
    rintro e w5 ⟨b, rfl, R5, G5⟩
    have hl4 := (R4).lt
    have bz5 := bz4.grown G5 (by intro e; injection e with e; omega)
    have bx5 := bx4.grown G5 (by intro e; injection e with e; omega)
    have hG5 := grownBy_trans hG4 G5
    clear c0 c1 f0 f1 lx d0 d1 e0 e1 lz
    obtain ⟨c0, c1, f0, f1, lx⟩ := blk2 bx5
    obtain ⟨d0, d1, e0, e1, lz⟩ := blk2 bz5
    have hl5 := R5.lt
    clear bx4 bz4 hG4 G5
    cases b
    · have HE := Lib.hid (HF.out p q _ hpq (((R5.setCell (q := ⟨w.heap.size, 0, none⟩) hzw (by dsimp only; omega) (.int .i64 p)).setCell (q := ⟨w.heap.size, 1, none⟩) hzw (by dsimp only; omega) (.int .i64 q)).mono (by omega)) (grownBy_setCell (grownBy_setCell hG5 (p := ⟨w.heap.size, 0, none⟩) (Nat.le_refl _) (.int .i64 p)) (p := ⟨w.heap.size, 1, none⟩) (Nat.le_refl _) (.int .i64 q)))
      clear bx5 bz5 hG5 R5
      go_wp2_with fail
      refine bodyPost_ret (v := .agg #[.int .i64 p, .int .i64 q]) (by simp [results, Try.results57, go_sem, d0, d1]) rfl ?_
      exact HE.out
    · go_wp2_with fail
      refine (pick_any (R5.alloc _) (by omega) (by omega) (by omega)).mono ?_
      rintro e w6 ⟨y, hy0, hy1, rfl, R6, G6⟩
      have hl6 := R6.lt
      have bz6 := (bz5.alloc _).grown G6 (by intro e; injection e with e; omega)
      have bl := (Blk.new w5 _ _).grown G6 (by intro e; injection e with e; omega)
      have hG6 := grownBy_trans (grownBy_alloc hG5 _) G6
      clear d0 d1 e0 e1 lz c0 c1 f0 f1 lx bz5 bx5 hG5 R5 G6
      obtain ⟨d0, d1, e0, e1, lz⟩ := blk2 bz6
      have fin := fun (p q : Int) h => HF.out p q _ h (((R6.setCell (q := ⟨w.heap.size, 0, none⟩) hzw (by dsimp only; omega) (.int .i64 p)).setCell (q := ⟨w.heap.size, 1, none⟩) hzw (by dsimp only; omega) (.int .i64 q)).mono (by omega)) (grownBy_setCell (grownBy_setCell hG6 (p := ⟨w.heap.size, 0, none⟩) (Nat.le_refl _) (.int .i64 p)) (p := ⟨w.heap.size, 1, none⟩) (Nat.le_refl _) (.int .i64 q))
      have HE := Lib.hid fin
      have HB := Lib.hid bl
      clear bz6 hG6 R6 fin bl
      rcases (by omega : y = 0 ∨ y = 1 ∨ y = 2 ∨ y = 3 ∨ y = 4) with rfl | rfl | rfl | rfl | rfl
      · have q0 := HB.out.cell 0
        have q1 := HB.out.cell 1
        simp only [List.getElem?_toArray, List.getElem?_cons_zero, List.getElem?_cons_succ] at q0 q1
        go_wp2_with fail
        refine bodyPost_ret (v := .agg #[.int .i64 0, .int .i64 0]) (by simp [results, Try.results57, go_sem, d0, d1]) rfl ?_
        exact HE.out _ _ (by omega)
      · have q0 := HB.out.cell 2
        have q1 := HB.out.cell 3
        simp only [List.getElem?_toArray, List.getElem?_cons_zero, List.getElem?_cons_succ] at q0 q1
        go_wp2_with fail
        refine bodyPost_ret (v := .agg #[.int .i64 2, .int .i64 4]) (by simp [results, Try.results57, go_sem, d0, d1]) rfl ?_
        exact HE.out _ _ (by omega)
      · have q0 := HB.out.cell 4
        have q1 := HB.out.cell 5
        simp only [List.getElem?_toArray, List.getElem?_cons_zero, List.getElem?_cons_succ] at q0 q1
        go_wp2_with fail
        refine bodyPost_ret (v := .agg #[.int .i64 1, .int .i64 (-3)]) (by simp [results, Try.results57, go_sem, d0, d1]) rfl ?_
        exact HE.out _ _ (by omega)
      · have q0 := HB.out.cell 6
        have q1 := HB.out.cell 7
        simp only [List.getElem?_toArray, List.getElem?_cons_zero, List.getElem?_cons_succ] at q0 q1
        go_wp2_with fail
        refine bodyPost_ret (v := .agg #[.int .i64 1000001, .int .i64 1]) (by simp [results, Try.results57, go_sem, d0, d1]) rfl ?_
        exact HE.out _ _ (by omega)
      · have q0 := HB.out.cell 8
        have q1 := HB.out.cell 9
        simp only [List.getElem?_toArray, List.getElem?_cons_zero, List.getElem?_cons_succ] at q0 q1
        go_wp2_with fail
        refine bodyPost_ret (v := .agg #[.int .i64 0, .int .i64 2]) (by simp [results, Try.results57, go_sem, d0, d1]) rfl ?_
        exact HE.out _ _ (by omega)

end Go.Proofs.Ytdpekaejklmomaa
