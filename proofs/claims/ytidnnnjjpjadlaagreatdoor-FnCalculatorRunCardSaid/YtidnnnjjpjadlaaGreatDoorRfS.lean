/- The reference's ReadFormat. No condition: contracts for the walks of the laws. -/
import Derived.Test.YtidnnnjjpjadlaaGreatDoorMrf
import Derived.Lib.SlicesS
namespace Go.Proofs.YtidnnnjjpjadlaaGreatDoor
open Go.ChangeShapes Go.WideShapes Go.ChangeAt Go.RowKit

theorem ret_rf {s : ByteArray} {a b : Int} (h : fmtB a b = true) (hs : sOf (fText a b) = s) : Ending.returned (.tuple #[.agg #[.int .i64 a, .int .i64 b], .bool true]) = Ending.returned (.tuple #[.agg #[.int .i64 (rfA s), .int .i64 (rfB s)], .bool (rfOk s)]) := by
  obtain ⟨g, e1, e2⟩ := fText_good h hs
  obtain ⟨h1, h2, h3⟩ := rf_yes g
  rw [h1, h2, h3, e1, e2]
theorem ret_rfno {s : ByteArray} (h : ∀ a b, fmtB a b = true → ¬ sOf (fText a b) = s) : Ending.returned (.tuple #[.agg #[.int .i64 0, .int .i64 0], .bool false]) = Ending.returned (.tuple #[.agg #[.int .i64 (rfA s), .int .i64 (rfB s)], .bool (rfOk s)]) := by
  obtain ⟨h1, h2, h3⟩ := rf_no (s := s) (fun g => by obtain ⟨p, q, h1, h2⟩ := rfGood_mk g; exact h p q h1 h2)
  rw [h1, h2, h3]
set_option maxHeartbeats 4000000 in
theorem rf_spec (s : ByteArray) (w : World) : Calls Tryz.prog 38 #[.string s] w fun e w' => e = .returned (.tuple #[.agg #[.int .i64 (rfA s), .int .i64 (rfB s)], .bool (rfOk s)]) ∧ Below w.heap.size w w' := by
  go_enter Tryz.func38, Tryz.ntmps38
  go_wp2_with fail
  go_loopw [4] (fun i wr => ∃ a : Int, i = .int .i64 a ∧ 1 ≤ a ∧ a ≤ 13 ∧ Blk wr w.heap.size 24 #[.int .i64 0, .int .i64 0] ∧ Below w.heap.size w wr ∧ Hid (∀ a' b', fmtB a' b' = true → a' < a → ¬ sOf (fText a' b') = s)) (fun i _ => (13 - RowKit.intOf i).toNat)
  case atStart => exact ⟨1, rfl, by omega, by omega, Blk.new _ _ _, (by repeat' (first | (with_reducible exact Below.refl _ _) | (with_reducible assumption) | (with_reducible refine below_drewN ?_ _) | (with_reducible refine Below.drew ?_) | (with_reducible refine bl_alloc ?_ _) | (with_reducible refine bl_set ?_ ?_ _) | go_size | omega)), Lib.hid (fun a' b' h h2 => by have := fmtB_mk h; omega)⟩
  case round =>
    obtain ⟨a, rfl, ha1, ha2, hb0, hbl, HN⟩ := hrel
    have HB0 := Lib.hid hb0
    have HBL := Lib.hid hbl
    obtain ⟨k0, k1, f0, f1, l0⟩ := blk2 hb0
    clear hb0 hbl
    by_cases ha : a ≤ 12
    · go_wp2_with fail
      go_loopw [5] (fun j wr => ∃ b : Int, j = .int .i64 b ∧ 0 ≤ b ∧ b ≤ 17 ∧ Blk wr w.heap.size 24 #[.int .i64 0, .int .i64 0] ∧ Below w.heap.size w wr ∧ Hid (∀ a' b', fmtB a' b' = true → a' < a ∨ (a' = a ∧ b' < b) → ¬ sOf (fText a' b') = s)) (fun j _ => (17 - RowKit.intOf j).toNat)
      case atStart => exact ⟨0, rfl, by omega, by omega, HB0.out, HBL.out, Lib.hid (fun a' b' h h2 => by have := fmtB_mk h; exact HN.out a' b' h (by omega))⟩
      case round =>
        obtain ⟨b, rfl, hb1, hb2, hb0, hbl, HN2⟩ := hrel
        have HB0 := Lib.hid hb0
        have HBL := Lib.hid hbl
        obtain ⟨k0, k1, f0, f1, l0⟩ := blk2 hb0
        clear hb0 hbl
        by_cases hb : b ≤ 16
        · have hv := Lib.hid (fmtB_in ha1 ha hb1 hb).symm
          go_wp2_with fail
          refine (ft_spec _ _ _).mono ?_
          rintro e w1 ⟨rfl, hb⟩
          have bx := (Blk.new _ _ _).below hb (by simp)
          have b0 := (HB0.out.alloc _).below hb (HB0.out.alloc _).lt
          (repeat (replace hb := unalloc hb))
          have bl := HBL.out.trans (hb.mono HBL.out.size)
          have HB0 := Lib.hid b0
          have HBL := Lib.hid bl
          obtain ⟨k0, k1, f0, f1, l0⟩ := blk2 b0
          obtain ⟨x0, x1, -, -, lx⟩ := blk2 bx
          clear b0 bl hb bx
          by_cases he : sOf (fText a b) = s
          · have HE := Lib.hid (ret_rf hv.out he)
            have q := (Lib.bytes_beq_iff _ _).2 he
            clear he
            go_wp2_with fail
            have bk : Blk _ w.heap.size 24 #[.int .i64 a, .int .i64 b] := (HB0.out.set 0 (.int .i64 a)).set 1 (.int .i64 b)
            obtain ⟨q0, q1, -, -, -⟩ := blk2 bk
            refine bodyPost_ret (v := .tuple #[.agg #[.int .i64 a, .int .i64 b], .bool true]) (by simp [results, Tryz.results38, go_sem, q0, q1]) rfl ?_
            have hb := HBL.out
            exact ⟨HE.out, (by repeat' (first | (with_reducible exact Below.refl _ _) | (with_reducible assumption) | (with_reducible refine below_drewN ?_ _) | (with_reducible refine Below.drew ?_) | (with_reducible refine bl_alloc ?_ _) | (with_reducible refine bl_set ?_ ?_ _) | go_size | omega))⟩
          · have q := (Lib.bytes_beq_false_iff _ _).2 he
            have HE := Lib.hid (fun a' b' (h : fmtB a' b' = true) (h2 : a' < a ∨ (a' = a ∧ b' < b + 1)) => show ¬ sOf (fText a' b') = s from by
              rcases (by omega : (a' < a ∨ (a' = a ∧ b' < b)) ∨ (a' = a ∧ b' = b)) with h3 | ⟨rfl, rfl⟩
              · exact HN2.out a' b' h h3
              · exact he)
            clear he
            go_wp2_with fail
            go_roundw
            case rel => exact ⟨b + 1, rfl, by omega, by omega, HB0.out, HBL.out, HE⟩
            case measure => simp [RowKit.intOf]; omega
        · have HE := Lib.hid (fun a' b' (h : fmtB a' b' = true) (h2 : a' < a + 1) => show ¬ sOf (fText a' b') = s from by
            have := fmtB_mk h
            exact HN2.out a' b' h (by omega))
          go_wp2_with fail
          go_roundw
          case rel => exact ⟨a + 1, rfl, by omega, by omega, HB0.out, HBL.out, HE⟩
          case measure => simp [RowKit.intOf]; omega
    · have HE := Lib.hid (ret_rfno (s := s) (fun a' b' h => by
        have := fmtB_mk h
        exact HN.out a' b' h (by omega)))
      go_wp2_with fail
      have bk : Blk _ w.heap.size 24 #[.int .i64 0, .int .i64 0] := (HB0.out.set 0 (.int .i64 0)).set 1 (.int .i64 0)
      obtain ⟨q0, q1, -, -, -⟩ := blk2 bk
      refine bodyPost_ret (v := .tuple #[.agg #[.int .i64 0, .int .i64 0], .bool false]) (by simp [results, Tryz.results38, go_sem, q0, q1]) rfl ?_
      have hb := HBL.out
      exact ⟨HE.out, (by repeat' (first | (with_reducible exact Below.refl _ _) | (with_reducible assumption) | (with_reducible refine below_drewN ?_ _) | (with_reducible refine Below.drew ?_) | (with_reducible refine bl_alloc ?_ _) | (with_reducible refine bl_set ?_ ?_ _) | go_size | omega))⟩
end Go.Proofs.YtidnnnjjpjadlaaGreatDoor
