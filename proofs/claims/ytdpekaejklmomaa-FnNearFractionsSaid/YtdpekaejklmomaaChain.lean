/- ChainOf. No condition: contracts for the walks of the laws. -/
import Derived.Test.YtdpekaejklmomaaChainP
namespace Go.Proofs.Ytdpekaejklmomaa
open Go.ChangeShapes Go.WideShapes Go.ChangeAt Go.RowKit


attribute [local go_sem] alloc_drewN' setCell_drewN'
set_option maxHeartbeats 2000000 in
theorem chain_impl (a b : Int) (w : World) : Calls Try.prog 28 #[.agg #[.int .i64 a, .int .i64 b]] w (RowPost w (frChain a b)) := by
  obtain ⟨i0, hi, hz0, hz1, hz2⟩ := (info_parts (P := Try.prog) (e := 3) (z := .int .i64 0) (size := 1) (bytes := 8) (by kernel_rfl) : ∃ i, Try.prog.info? 3 = some i ∧ i.zero = some (.int .i64 0) ∧ i.size = 1 ∧ i.bytes = 8)
  by_cases h : frOk a b = true
  · rw [frChain_in h]
    have HC := Lib.hid (ch_start h)
    go_enter Try.func28, Try.ntmps28
    go_wp2_with (first | (go_at_call 34; refine (fv_impl _ _ _).mono ?_; rintro e w' ⟨rfl, m, rfl⟩))
    go_loopw [3] (fun v wr => ∃ (x y : Int) (xs : List Int), Blk wr w.heap.size 41 #[.int .i64 x, .int .i64 y] ∧ Row wr (w.heap.size + 1) v xs ∧ Below w.heap.size w wr ∧ Hid (ChRel a b x y xs)) (fun _ wr => cellN wr w.heap.size 1)
    case atStart => exact ⟨a, b, [], (by repeat (first | (with_reducible refine Blk.drewN ?_ _) | (with_reducible exact Blk.new _ _ _) | ((with_reducible refine Blk.newAt ?_) <;> first | rfl | (simp; done) | omega | (simp; omega)) | (with_reducible refine Blk.alloc ?_ _))), Row.nil _ _, (by repeat' (first | (with_reducible exact Below.refl _ _) | (with_reducible assumption) | (with_reducible refine below_drewN ?_ _) | (with_reducible refine Below.drew ?_) | (with_reducible refine bl_alloc ?_ _) | (with_reducible refine bl_set ?_ ?_ _) | go_size | omega)), HC⟩
    case round =>
      obtain ⟨x, y, xs, hx, hrow, hbl, HR⟩ := hrel
      have hr := HR.out
      obtain ⟨-, x1, x2, y1, y2, y3⟩ := hr
      obtain ⟨c0, c1, f0, f1, l0⟩ := blk2 hx
      have HX := Lib.hid hx
      have HROW := Lib.hid hrow
      have HBL := Lib.hid hbl
      clear hx
      by_cases hy : y = 0
      · subst hy
        have e := ch_end HR.out
        have HE := Lib.hid e
        clear e hrow hbl
        go_wp2
        go_ret
        exact ⟨_, rfl, HE.out ▸ HROW.out.lower (by omega), HBL.out⟩
      · obtain ⟨q1, q2⟩ := ediv_abs (a := x) (b := y) (M := 1000000) (by omega) (by omega) (by omega) (by omega)
        obtain ⟨q3, q4⟩ := ediv_bd (a := x) (show 0 < y by omega)
        have HN := Lib.hid (ch_step HR.out (show 0 < y by omega))
        go_wp2_with (first | (go_at_call 56; refine (floordiv_any _ _ _ (by omega) (by omega) (by omega) (by omega)).mono ?_; rintro e w' ⟨rfl, rfl⟩) | (at_builtin; refine wpList_append_own _ rfl _ _ 39 rfl (w.heap.size + 1) 3 i0 (.int .i64 0) 1 8 Try.underlying39 hi hz0 hz1 hz2 rfl (by decide) _ _ _ rfl (hrow.alloc _) ⟨wr.heap.size, 0, none⟩ 1 1 [.int .i64 (x / y)] rfl rfl ?c1 ?c2 ?c3 ?c4 ?c5 ?_))
        case c1 =>
          intro j u hj
          match j, hj with
          | 0, hj => simp at hj; subst hj; simp [Addr.add]
        case c2 => intro u hu; simp at hu; subst hu; rfl
        case c3 => unfold maxLen; omega
        case c4 => omega
        case c5 => have := hbl.size; simp; omega
        intro v' w1 hown' hgrow _
        obtain ⟨r1, b1, hk⟩ := Row.more HROW.out hown' hgrow HBL.out (by omega) (Nat.le_refl _)
        have bx := hk w.heap.size _ _ (by omega) HX.out
        have cy := cellN_of c1
        have CY := Lib.hid cy
        clear c0 c1 f0 f1 l0 hown' hgrow hrow hbl hk cy
        obtain ⟨c0, c1, f0, f1, l0⟩ := blk2 bx
        have BX := Lib.hid ((bx.set 0 (.int .i64 y)).set 1 (.int .i64 (x - x / y * y)))
        have R1 := Lib.hid ((r1.far (p := ⟨w.heap.size, 0, none⟩) (by dsimp only; omega) (.int .i64 y)).far (p := ⟨w.heap.size, 1, none⟩) (by dsimp only; omega) (.int .i64 (x - x / y * y)))
        have B1 := Lib.hid ((b1.setCell (p := ⟨w.heap.size, 0, none⟩) (Nat.le_refl _) (.int .i64 y)).setCell (p := ⟨w.heap.size, 1, none⟩) (Nat.le_refl _) (.int .i64 (x - x / y * y)))
        clear bx r1 b1
        go_wp2_with fail
        go_roundw
        case rel => exact ⟨y, x - x / y * y, xs ++ [x / y], BX.out, R1.out, B1.out, HN⟩
        case measure =>
          rw [CY.out, cellN_of (BX.out.cell 1)]
          omega
  · have h' : frOk a b = false := by simpa using h
    rw [frChain_out h']
    clear h
    go_enter Try.func28, Try.ntmps28
    go_wp2_with (first | (go_at_call 34; refine (fv_impl _ _ _).mono ?_; rintro e w' ⟨rfl, m, rfl⟩))
    go_ret
    exact ⟨_, rfl, Row.nil _ _, (by repeat' (first | (with_reducible exact Below.refl _ _) | (with_reducible assumption) | (with_reducible refine below_drewN ?_ _) | (with_reducible refine Below.drew ?_) | (with_reducible refine bl_alloc ?_ _) | (with_reducible refine bl_set ?_ ?_ _) | go_size | omega))⟩
set_option maxHeartbeats 2000000 in
theorem chain_spec (a b : Int) (w : World) : Calls Try.prog 26 #[.agg #[.int .i64 a, .int .i64 b]] w (RowPost w (frChain a b)) := by
  obtain ⟨i0, hi, hz0, hz1, hz2⟩ := (info_parts (P := Try.prog) (e := 3) (z := .int .i64 0) (size := 1) (bytes := 8) (by kernel_rfl) : ∃ i, Try.prog.info? 3 = some i ∧ i.zero = some (.int .i64 0) ∧ i.size = 1 ∧ i.bytes = 8)
  by_cases h : frOk a b = true
  · rw [frChain_in h]
    have HC := Lib.hid (ch_start h)
    go_enter Try.func26, Try.ntmps26
    go_wp2_with (first | (go_at_call 54; refine (fv_spec _ _ _).mono ?_; rintro e w' ⟨rfl, m, rfl⟩))
    go_loopw [3, 4, 5] (fun v i j wr => ∃ (x y : Int) (xs : List Int), i = .int .i64 x ∧ j = .int .i64 y ∧ Row wr w.heap.size v xs ∧ Below w.heap.size w wr ∧ Hid (ChRel a b x y xs)) (fun _ _ j _ => (RowKit.intOf j).toNat)
    case atStart => exact ⟨a, b, [], rfl, rfl, (by repeat (first | (with_reducible refine Row.drewN ?_ _) | ((with_reducible refine Row.emptyAt ?_ ?_) <;> first | rfl | (simp; done) | omega | (simp; omega)) | (with_reducible refine Row.alloc ?_ _))), (by repeat' (first | (with_reducible exact Below.refl _ _) | (with_reducible assumption) | (with_reducible refine below_drewN ?_ _) | (with_reducible refine Below.drew ?_) | (with_reducible refine bl_alloc ?_ _) | (with_reducible refine bl_set ?_ ?_ _) | go_size | omega)), HC⟩
    case round =>
      obtain ⟨x, y, xs, rfl, rfl, hrow, hbl, HR⟩ := hrel
      have hr := HR.out
      obtain ⟨-, x1, x2, y1, y2, y3⟩ := hr
      have HROW := Lib.hid hrow
      have HBL := Lib.hid hbl
      by_cases hy : y = 0
      · subst hy
        have e := ch_end HR.out
        have HE := Lib.hid e
        clear e hrow hbl
        go_wp2
        go_ret
        exact ⟨_, rfl, HE.out ▸ HROW.out, HBL.out⟩
      · obtain ⟨q1, q2⟩ := ediv_abs (a := x) (b := y) (M := 1000000) (by omega) (by omega) (by omega) (by omega)
        obtain ⟨q3, q4⟩ := ediv_bd (a := x) (show 0 < y by omega)
        have HN := Lib.hid (ch_step HR.out (show 0 < y by omega))
        go_wp2_with (first | (go_at_call 55; refine (l1floor_any _ _ _ (by omega) (by omega) (by omega) (by omega)).mono ?_; rintro e w' ⟨rfl, rfl⟩) | (at_builtin; refine wpList_append_own _ rfl _ _ 39 rfl w.heap.size 3 i0 (.int .i64 0) 1 8 Try.underlying39 hi hz0 hz1 hz2 rfl (by decide) _ _ _ rfl (hrow.alloc _) ⟨wr.heap.size, 0, none⟩ 1 1 [.int .i64 (x / y)] rfl rfl ?c1 ?c2 ?c3 ?c4 ?c5 ?_))
        case c1 =>
          intro j u hj
          match j, hj with
          | 0, hj => simp at hj; subst hj; simp [Addr.add]
        case c2 => intro u hu; simp at hu; subst hu; rfl
        case c3 => unfold maxLen; omega
        case c4 => omega
        case c5 => have := hbl.size; simp; omega
        intro v' w1 hown' hgrow _
        obtain ⟨r1, b1, hk⟩ := Row.more HROW.out hown' hgrow HBL.out (Nat.le_refl _) (Nat.le_refl _)
        have R1 := Lib.hid r1
        have B1 := Lib.hid b1
        clear hown' hgrow hrow hbl hk r1 b1
        go_wp2_with fail
        go_roundw
        case rel => exact ⟨y, x - x / y * y, xs ++ [x / y], rfl, rfl, R1.out, B1.out, HN⟩
        case measure => simp [RowKit.intOf]; omega
  · have h' : frOk a b = false := by simpa using h
    rw [frChain_out h']
    clear h
    go_enter Try.func26, Try.ntmps26
    go_wp2_with (first | (go_at_call 54; refine (fv_spec _ _ _).mono ?_; rintro e w' ⟨rfl, m, rfl⟩))
    go_ret
    exact ⟨.slice (some ⟨w.heap.size + 1, 0, none⟩) 0 0, rfl, (by repeat (first | (with_reducible refine Row.drewN ?_ _) | ((with_reducible refine Row.emptyAt ?_ ?_) <;> first | rfl | (simp; done) | omega | (simp; omega)) | (with_reducible refine Row.alloc ?_ _))), (by repeat' (first | (with_reducible exact Below.refl _ _) | (with_reducible assumption) | (with_reducible refine below_drewN ?_ _) | (with_reducible refine Below.drew ?_) | (with_reducible refine bl_alloc ?_ _) | (with_reducible refine bl_set ?_ ?_ _) | go_size | omega))⟩

end Go.Proofs.Ytdpekaejklmomaa
