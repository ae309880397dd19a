/- ReadStored of the reference, no text. No condition: contracts for the walks of the laws. -/
import Derived.Test.YtcgbbbcanmkcbaaDoorRsA
namespace Go.Proofs.YtcgbbbcanmkcbaaDoor
open Go.ChangeShapes Go.WideShapes Go.ChangeAt Go.RowKit

set_option maxRecDepth 100000 in
set_option maxHeartbeats 32000000 in
theorem rds_bad (p q : Int) (s : ByteArray) (w : World) (hv0 : fmtB p q = false) : Calls Tryd.prog 28 #[.agg #[.int .i64 p, .int .i64 q], .string s] w fun e w' => e = .returned (.tuple #[.int .i64 (rsN p q s), .bool (rsOk p q s)]) ∧ Below w.heap.size w w' := by
  have HB := Lib.hid (Below.refl w.heap.size w)
  have Bx := Lib.hid (Blk.new w 25 #[.int .i64 p, .int .i64 q])
  obtain ⟨e1, e2⟩ := rs_no (p := p) (q := q) (s := s) (fun ⟨n, h, _⟩ => by
    obtain ⟨⟨a1, a2, a3, a4⟩, -, -⟩ := fitB_mk h
    have := fmtB_in a1 a2 a3 a4
    rw [hv0] at this; exact absurd this (by decide))
  rw [e1, e2]
  have hv := Lib.hid hv0
  clear hv0 e1 e2
  go_enter Tryd.func28, Tryd.ntmps28
  go_wp2_with (first | (go_at_call 16; refine (fmvb_spec hv.out _).mono ?_; rintro e w' ⟨rfl, mm, rfl⟩))
  go_ret2
  have hb := HB.out
  exact ⟨rfl, (by repeat' (first | (with_reducible exact Below.refl _ _) | (with_reducible assumption) | (with_reducible refine below_drewN ?_ _) | (with_reducible refine Below.drew ?_) | (with_reducible refine bl_alloc ?_ _) | (with_reducible refine bl_set ?_ ?_ _) | go_size | omega))⟩
set_option maxRecDepth 100000 in
set_option maxHeartbeats 32000000 in
theorem rds_nil (p q : Int) (s : ByteArray) (w : World) (hv0 : fmtB p q = true) (hz : s.size = 0) : Calls Tryd.prog 28 #[.agg #[.int .i64 p, .int .i64 q], .string s] w fun e w' => e = .returned (.tuple #[.int .i64 (rsN p q s), .bool (rsOk p q s)]) ∧ Below w.heap.size w w' := by
  have HB := Lib.hid (Below.refl w.heap.size w)
  have Bx := Lib.hid (Blk.new w 25 #[.int .i64 p, .int .i64 q])
  obtain ⟨h1, h2, h3, h4⟩ := fmtB_mk hv0
  have hv := Lib.hid hv0
  clear hv0
  obtain ⟨b1, b2⟩ := q16_bd h3 h4
  have hnil : s.data.toList = [] := List.eq_nil_of_length_eq_zero (by simpa using hz)
  have hs0 := (Lib.bytes_beq_iff s ⟨#[]⟩).2 (by rw [← sOf_list s, hnil]; rfl)
  have hs1 : s.toList.isEmpty = true := by rw [ByteArray.toList_eq, hnil]; rfl
  have HSG : Hid (psSign s.data.toList = (1, s.data.toList.drop 0)) := Lib.hid (by rw [hnil]; rfl)
  have HNIL := Lib.hid hnil
  have HWS := Lib.hid (w_start HSG.out)
  clear hnil
  go_enter Tryd.func28, Tryd.ntmps28
  go_upto_block 0 with (first | (go_at_call 16; refine (fmvb_spec hv.out _).mono ?_; rintro e w' ⟨rfl, mm, rfl⟩))
  go_cut [6, 8] (fun t v wx => WCut s w p q t v wx)
  case first =>
    go_wp2_with fail
    go_loop [6, 8] (fun t v => ∃ (a : Nat) (x : Int), t = .int .i64 (a : Int) ∧ v = .int .i64 x ∧ a ≤ s.size ∧ 0 ≤ x ∧ x ≤ 999999 ∧ Hid (WRel s.data.toList a x)) (fun t _ => (s.size - RowKit.intOf t).toNat)
    case atStart => exact ⟨0, 0, rfl, rfl, by omega, by omega, by omega, HWS⟩
    case round =>
      obtain ⟨a, x, rfl, rfl, ha, x0, x1, HW⟩ := hrel
      have HQ : ∀ (a : Nat) (x : Int), a ≤ s.size → 0 ≤ x → x ≤ 999999 → psW s.data.toList = (x, s.data.toList.drop a) → WCut s w p q (.int .i64 ((a : Nat) : Int)) (.int .i64 x) (((w.alloc (.cells #[.int .i64 p, .int .i64 q] 25)).alloc (.cells #[.int .i64 p, .int .i64 q] 25)).drewN mm) := fun _ _ h1 h2 h3 h4 => ⟨_, _, rfl, rfl, h1, ⟨h2, h3⟩, h4, ((Blk.new _ _ _).alloc _).drewN _, (by repeat' (first | (with_reducible exact Below.refl _ _) | (with_reducible assumption) | (with_reducible refine below_drewN ?_ _) | (with_reducible refine Below.drew ?_) | (with_reducible refine bl_alloc ?_ _) | (with_reducible refine bl_set ?_ ?_ _) | go_size | omega))⟩
      have HQ := Lib.hid HQ
      by_cases hlt : a < s.size
      · omega
      · have HE := Lib.hid (w_end HW.out (by omega))
        go_wp2_with fail
        go_meet
        exact HQ.out _ _ ha x0 x1 HE.out
  case rest =>
    obtain ⟨a, y, rfl, rfl, ha, ⟨y0, y1⟩, hW, hin⟩ := hcut
    have HW := Lib.hid hW
    obtain ⟨hin1, hin2⟩ := hin
    obtain ⟨kx0, kx1, -, -, lx⟩ := blk2 hin1
    have Bx := Lib.hid hin1
    have HB := Lib.hid hin2
    clear hW hin1 hin2
    have HR := Lib.hid (p_none HW.out (fun h => by omega))
    obtain rfl : a = s.size := by omega
    obtain ⟨V, hV⟩ : ∃ V : Int, (0 : Int) * 2 ^ q.toNat / (1 : Int) = V := ⟨_, rfl⟩
    have hV0 : 0 ≤ V := by rw [← hV]; exact Int.ediv_nonneg (Int.mul_nonneg (by omega) (by omega)) (by omega)
    have hV1 : V ≤ 65536 := by
      rw [← hV]
      have : (0 : Int) * 2 ^ q.toNat / (1 : Int) < 2 ^ q.toNat + 1 := by
        rw [Int.ediv_lt_iff_lt_mul (by omega)]
        have := Int.mul_le_mul_of_nonneg_right (show (0 : Int) ≤ 1 by omega) (show 0 ≤ (2 : Int) ^ q.toNat by omega)
        rw [Int.add_mul, Int.mul_comm (2 ^ q.toNat) (1 : Int)]
        omega
      omega
    obtain ⟨N, hNN⟩ : ∃ N, 1 * (y * 2 ^ q.toNat + V) = N := ⟨_, rfl⟩
    have HPN := Lib.hid (show psN q s.data.toList = N by unfold psN; rw [HSG.out, HW.out, HR.out]; dsimp only; rw [hV, hNN])
    have hy2 := Int.mul_le_mul_of_nonneg_left b2 y0
    have hy3 := Int.mul_nonneg y0 (show 0 ≤ (2 : Int) ^ q.toNat by omega)
    have e1 : wrap64 (y * 2 ^ q.toNat) = y * 2 ^ q.toNat := wr64 (by omega) (by omega)
    have e1' : IntKind.i64.wrap (y * 2 ^ q.toNat) = y * 2 ^ q.toNat := IntWalk.i64_in _ (by omega)
    have e2 : IntKind.i64.wrap (y * 2 ^ q.toNat + V) = y * 2 ^ q.toNat + V := IntWalk.i64_in _ (by omega)
    have e3 : IntKind.i64.wrap (1 * (y * 2 ^ q.toNat + V)) = N := by rw [hNN]; exact IntWalk.i64_in _ (by omega)
    have SV := Lib.hid (show ∀ w', Calls Tryd.prog 47 #[.int .i64 0, .int .i64 1, .int .i64 q] w' fun e w'' => e = .returned (.int .i64 ((0 : Int) * 2 ^ q.toNat / (1 : Int))) ∧ w'' = w' from fun w' => (scale_any 0 1 q w' (by omega) (by omega) (by omega) h3 h4).mono fun _ _ hh => ⟨hh.1, hh.2.symm⟩)
    rw [hV] at SV
    have EN : Hid (wrap64 (y * 2 ^ q.toNat + V) = N) := Lib.hid ((wr64 (by omega) (by omega)).trans (by rw [← hNN]; omega))
    have EM : Hid (y * 2 ^ q.toNat + V = N) := Lib.hid (by rw [← hNN]; omega)
    clear hV hNN hy2 hy3 hV0 hV1
    go_wp2_with fail
    go_quiet ((go_at_call 47; exact Calls.quiet_of_same (SV.out _)))
    clear e1 e1' e2 e3
    have hpn := psBad_rs (p := p) (q := q) (s := s) (fun h => h.2.1 HNIL.out)
    have HPNN := Lib.hid hpn
    clear hpn
    go_wp2_with fail
    go_ret2
    exact ⟨ret_rs HPNN.out, (by have hb := HB.out; exact (by repeat' (first | (with_reducible exact Below.refl _ _) | (with_reducible assumption) | (with_reducible refine below_drewN ?_ _) | (with_reducible refine Below.drew ?_) | (with_reducible refine bl_alloc ?_ _) | (with_reducible refine bl_set ?_ ?_ _) | go_size | omega)))⟩
end Go.Proofs.YtcgbbbcanmkcbaaDoor
