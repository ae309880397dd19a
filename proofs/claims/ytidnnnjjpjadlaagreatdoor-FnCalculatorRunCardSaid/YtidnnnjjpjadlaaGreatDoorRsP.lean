/- ReadStored of the reference, no minus sign ahead. No condition: contracts for the walks of the laws. -/
import Derived.Test.YtidnnnjjpjadlaaGreatDoorMrs
namespace Go.Proofs.YtidnnnjjpjadlaaGreatDoor
open Go.ChangeShapes Go.WideShapes Go.ChangeAt Go.RowKit

set_option maxRecDepth 100000 in
set_option maxHeartbeats 32000000 in
theorem rds_pos (p q : Int) (s : ByteArray) (w : World) (hs : s.size ≤ 2000000) (hv0 : fmtB p q = true) (hz : 0 < s.size) (h45 : ¬ s[0] = 45) : Calls Tryz.prog 29 #[.agg #[.int .i64 p, .int .i64 q], .string s] w fun e w' => e = .returned (.tuple #[.int .i64 (rsN p q s), .bool (rsOk p q s)]) ∧ Below w.heap.size w w' := by
  have HB := Lib.hid (Below.refl w.heap.size w)
  have Bx := Lib.hid (Blk.new w 24 #[.int .i64 p, .int .i64 q])
  obtain ⟨h1, h2, h3, h4⟩ := fmtB_mk hv0
  have hv := Lib.hid hv0
  clear hv0
  obtain ⟨b1, b2⟩ := q16_bd h3 h4
  have hne : ¬ s = ⟨#[]⟩ := fun e => by rw [e] at hz; exact absurd hz (by decide)
  have hs0 := (Lib.bytes_beq_false_iff _ _).2 hne
  have hnil : s.data.toList ≠ [] := fun e => by
    have hl : s.data.toList.length = s.size := by simp
    rw [e] at hl
    simp at hl
    omega
  have hs1 : s.toList.isEmpty = false := by rw [ByteArray.toList_eq]; exact List.isEmpty_eq_false_iff.2 hnil
  have hdr := drop_get hz
  rw [List.drop_zero] at hdr
  have HSG : Hid (psSign s.data.toList = (1, s.data.toList.drop 0)) := Lib.hid (by rw [List.drop_zero, hdr]; unfold psSign; simp [h45])
  have bb := byte_no h45 (n := 45) rfl
  clear h45 hdr hne
  have HNIL := Lib.hid hnil
  have HWS := Lib.hid (w_start HSG.out)
  clear hnil
  go_enter Tryz.func29, Tryz.ntmps29
  go_upto_block 0 with (first | (go_at_call 64; refine (fmvb_spec hv.out _).mono ?_; rintro e w' ⟨rfl, mm, rfl⟩))
  go_cut [6, 8] (fun t v wx => WCut s w p q t v wx)
  case first =>
    go_wp2_with fail
    go_loop [6, 8] (fun t v => ∃ (a : Nat) (x : Int), t = .int .i64 (a : Int) ∧ v = .int .i64 x ∧ a ≤ s.size ∧ 0 ≤ x ∧ x ≤ 999999 ∧ Hid (WRel s.data.toList a x)) (fun t _ => (s.size - RowKit.intOf t).toNat)
    case atStart => exact ⟨0, 0, rfl, rfl, by omega, by omega, by omega, HWS⟩
    case round =>
      obtain ⟨a, x, rfl, rfl, ha, x0, x1, HW⟩ := hrel
      have HQ : ∀ (a : Nat) (x : Int), a ≤ s.size → 0 ≤ x → x ≤ 999999 → psW s.data.toList = (x, s.data.toList.drop a) → WCut s w p q (.int .i64 ((a : Nat) : Int)) (.int .i64 x) (((w.alloc (.cells #[.int .i64 p, .int .i64 q] 24)).alloc (.cells #[.int .i64 p, .int .i64 q] 24)).drewN mm) := fun _ _ h1 h2 h3 h4 => ⟨_, _, rfl, rfl, h1, ⟨h2, h3⟩, h4, ((Blk.new _ _ _).alloc _).drewN _, (by repeat' (first | (with_reducible exact Below.refl _ _) | (with_reducible assumption) | (with_reducible refine below_drewN ?_ _) | (with_reducible refine Below.drew ?_) | (with_reducible refine bl_alloc ?_ _) | (with_reducible refine bl_set ?_ ?_ _) | go_size | omega))⟩
      have HQ := Lib.hid HQ
      by_cases hlt : a < s.size
      · have W1 := Lib.hid (fun h1 h2 h3 => w_more HW.out hlt h1 h2 h3)
        have W2 := Lib.hid (fun h1 => w_stop HW.out hlt h1)
        have hv := s[a].toNat_lt
        rcases (by omega : s[a].toNat < 48 ∨ 57 < s[a].toNat ∨ (48 ≤ s[a].toNat ∧ s[a].toNat ≤ 57)) with h | h | ⟨h, h'⟩
        · have HE := Lib.hid (W2.out (.inl h))
          go_wp2_with fail
          go_meet
          exact HQ.out _ _ ha x0 x1 HE.out
        · have HE := Lib.hid (W2.out (.inr (.inl h)))
          go_wp2_with fail
          go_meet
          exact HQ.out _ _ ha x0 x1 HE.out
        · rcases (by omega : x < 100000 ∨ 100000 ≤ x) with h3 | h3
          · have HE := Lib.hid (W1.out h h' h3)
            go_wp2_with fail
            go_round
            case rel => exact ⟨a + 1, 10 * x + (s[a].toNat - 48), by go_num, rfl, by omega, by omega, by omega, HE⟩
            case measure => simp [RowKit.intOf]; omega
          · have HE := Lib.hid (W2.out (.inr (.inr h3)))
            go_wp2_with fail
            go_meet
            exact HQ.out _ _ ha x0 x1 HE.out
      · have HE := Lib.hid (w_end HW.out (by omega))
        go_wp2_with fail
        go_meet
        exact HQ.out _ _ ha x0 x1 HE.out
  case rest =>
    obtain ⟨a, y, rfl, rfl, ha, ⟨y0, y1⟩, hW, hin⟩ := hcut
    have HW := Lib.hid hW
    obtain ⟨hin1, hin2⟩ := hin
    obtain ⟨kx0, kx1, -, -, lx⟩ := blk2 hin1
    have Bx := Lib.hid hin1
    have HB := Lib.hid hin2
    clear hW hin1 hin2
    by_cases hlt : a < s.size
    · by_cases h46 : s[a] = 46
      · have HPS := Lib.hid (p_start HW.out hlt h46)
        have bb2 := byte_yes h46 (n := 46) rfl
        go_upto_block 2 with fail
        go_cut [6, 9, 10] (fun t v u wx => PCut s w p q t v u wx)
        case first =>
          go_wp2_with fail
          go_loop [6, 9, 10] (fun t v u => ∃ (a : Nat) (x c : Int), t = .int .i64 (a : Int) ∧ v = .int .i64 x ∧ u = .int .i64 c ∧ a ≤ s.size ∧ 0 ≤ x ∧ x < c ∧ c ≤ 10000000000000000 ∧ Hid (PRel s.data.toList a x c) ∧ Hid (∃ j : Nat, j ≤ 16 ∧ c = 10 ^ j)) (fun t _ _ => (s.size - RowKit.intOf t).toNat)
          case atStart => exact ⟨a + 1, 0, 1, by go_num, rfl, rfl, by omega, by omega, by omega, by omega, HPS, Lib.hid ⟨0, by omega, rfl⟩⟩
          case round =>
            obtain ⟨a, x, c, rfl, rfl, rfl, ha, x0, x1, c1, HW2, HC⟩ := hrel
            have HQ := Lib.hid (fun h4 => (⟨a, x, c, rfl, rfl, rfl, ha, ⟨x0, x1, c1⟩, h4, Bx.out, HB.out⟩ : PCut s w p q (.int .i64 (a : Int)) (.int .i64 x) (.int .i64 c) wc))
            by_cases hlt : a < s.size
            · have W1 := Lib.hid (fun h1 h2 h3 => p_more HW2.out hlt h1 h2 h3)
              have W2 := Lib.hid (fun h1 => p_stop HW2.out hlt h1)
              have hv := s[a].toNat_lt
              rcases (by omega : s[a].toNat < 48 ∨ 57 < s[a].toNat ∨ (48 ≤ s[a].toNat ∧ s[a].toNat ≤ 57)) with h | h | ⟨h, h'⟩
              · have HE := Lib.hid (W2.out (.inl h))
                go_wp2_with fail
                go_meet
                exact HQ.out HE.out
              · have HE := Lib.hid (W2.out (.inr (.inl h)))
                go_wp2_with fail
                go_meet
                exact HQ.out HE.out
              · rcases (by omega : c < 10000000000000000 ∨ 10000000000000000 ≤ c) with h3 | h3
                · have HE := Lib.hid (W1.out h h' h3)
                  have HC2 := Lib.hid (ten_more HC.out h3)
                  have c2 : 10 * c ≤ 10000000000000000 := by
                    obtain ⟨j, hj, hc⟩ := HC2.out
                    have := ten_le hj
                    omega
                  go_wp2_with fail
                  go_round
                  case rel => exact ⟨a + 1, 10 * x + (s[a].toNat - 48), 10 * c, by go_num, rfl, rfl, by omega, by omega, by omega, c2, HE, HC2⟩
                  case measure => simp [RowKit.intOf]; omega
                · have HE := Lib.hid (W2.out (.inr (.inr h3)))
                  go_wp2_with fail
                  go_meet
                  exact HQ.out HE.out
            · have HE := Lib.hid (p_end HW2.out (by omega))
              go_wp2_with fail
              go_meet
              exact HQ.out HE.out
        case rest =>
          clear bb2 hlt h46 ha kx0 kx1 lx
          obtain ⟨a, x, c, rfl, rfl, rfl, ha, ⟨x0, x1, c1⟩, hR, hin1, hin2⟩ := hcut
          have HR := Lib.hid hR
          obtain ⟨kx0, kx1, -, -, lx⟩ := blk2 hin1
          have Bx := Lib.hid hin1
          have HB := Lib.hid hin2
          clear hR hin1 hin2
          rcases (by omega : a = s.size ∨ a < s.size) with hal | hal
          · subst hal
            obtain ⟨V, hV⟩ : ∃ V : Int, (x : Int) * 2 ^ q.toNat / (c : Int) = V := ⟨_, rfl⟩
            have hV0 : 0 ≤ V := by rw [← hV]; exact Int.ediv_nonneg (Int.mul_nonneg (by omega) (by omega)) (by omega)
            have hV1 : V ≤ 65536 := by
              rw [← hV]
              have : (x : Int) * 2 ^ q.toNat / (c : Int) < 2 ^ q.toNat + 1 := by
                rw [Int.ediv_lt_iff_lt_mul (by omega)]
                have := Int.mul_le_mul_of_nonneg_right (show (x : Int) ≤ c by omega) (show 0 ≤ (2 : Int) ^ q.toNat by omega)
                rw [Int.add_mul, Int.mul_comm (2 ^ q.toNat) (c : Int)]
                omega
              omega
            obtain ⟨N, hNN⟩ : ∃ N, 1 * (y * 2 ^ q.toNat + V) = N := ⟨_, rfl⟩
            have HPN := Lib.hid (show psN q s.data.toList = N by unfold psN; rw [HSG.out, HW.out, HR.out]; dsimp only; rw [hV, hNN])
            have hy2 := Int.mul_le_mul_of_nonneg_left b2 y0
            have hy3 := Int.mul_nonneg y0 (show 0 ≤ (2 : Int) ^ q.toNat by omega)
            have e1 : wrap64 (y * 2 ^ q.toNat) = y * 2 ^ q.toNat := wr64 (by omega) (by omega)
            have e1' : IntKind.i64.wrap (y * 2 ^ q.toNat) = y * 2 ^ q.toNat := IntWalk.i64_in _ (by omega)
            have e2 : IntKind.i64.wrap (y * 2 ^ q.toNat + V) = y * 2 ^ q.toNat + V := IntWalk.i64_in _ (by omega)
            have e3 : IntKind.i64.wrap (1 * (y * 2 ^ q.toNat + V)) = N := by rw [hNN]; exact IntWalk.i64_in _ (by omega)
            have SV := Lib.hid (show ∀ w', Calls Tryz.prog 65 #[.int .i64 x, .int .i64 c, .int .i64 q] w' fun e w'' => e = .returned (.int .i64 ((x : Int) * 2 ^ q.toNat / (c : Int))) ∧ w'' = w' from fun w' => (scale_any x c q w' (by omega) (by omega) (by omega) h3 h4).mono fun _ _ hh => ⟨hh.1, hh.2.symm⟩)
            rw [hV] at SV
            have EN : Hid (wrap64 (y * 2 ^ q.toNat + V) = N) := Lib.hid ((wr64 (by omega) (by omega)).trans (by rw [← hNN]; omega))
            have EM : Hid (y * 2 ^ q.toNat + V = N) := Lib.hid (by rw [← hNN]; omega)
            clear hV hNN hy2 hy3 hV0 hV1
            go_wp2_with fail
            go_quiet ((go_at_call 65; exact Calls.quiet_of_same (SV.out _)))
            clear e1 e1' e2 e3
            have HGD := Lib.hid (show psGood p q s.data.toList ↔ sOf (sText p q N) = s from by
              unfold psGood
              rw [HPN.out, HR.out]
              refine ⟨fun h => by rw [h.2.2]; exact sOf_list s, fun h => ⟨?_, HNIL.out, ?_⟩⟩
              · exact List.drop_eq_nil_of_le (by simp)
              · rw [← h]; rfl)
            by_cases hg : psGood p q s.data.toList
            · have HPNN := Lib.hid (show rsN p q s = N ∧ rsOk p q s = true by have := psGood_rs hg; rw [HPN.out] at this; exact this)
              have qq := (Lib.bytes_beq_iff _ _).2 (HGD.out.1 hg)
              have ST := Lib.hid (fun w' => st_spec p q N w')
              clear hg
              generalize sOf (sText p q N) = tt at *
              go_wp2_with fail
              first | rw [EN.out] | rw [EM.out] | skip
              with_reducible refine Calls.mono (ST.out _) ?_
              rintro e w5 ⟨rfl, hb⟩
              have hw := bl_behind (w := w) hb (by have hb0 := HB.out; repeat (first | (with_reducible exact hb0) | (with_reducible refine below_drewN ?_ _) | (with_reducible refine Below.drew ?_) | (with_reducible refine bl_alloc ?_ _))); have bx := Blk.below (g := w.heap.size) (t := 24) (cs := #[.int .i64 p, .int .i64 q]) (by repeat (first | (with_reducible exact Bx.out) | (with_reducible exact Blk.new _ _ _) | (with_reducible refine Blk.drewN ?_ _) | (with_reducible refine Blk.drew ?_) | (with_reducible refine Blk.alloc ?_ _))) hb (by first | (have := Bx.out.lt; first | omega | (simp; omega)) | (simp; done) | (simp; omega)); have Bx := Lib.hid bx; obtain ⟨kx0, kx1, fx0, fx1, lx⟩ := blk2 bx; clear bx; have HB := Lib.hid hw; clear hw hb
              go_wp2_with fail
              go_ret2
              exact ⟨ret_rs HPNN.out, (by have hb := HB.out; exact (by repeat' (first | (with_reducible exact Below.refl _ _) | (with_reducible assumption) | (with_reducible refine below_drewN ?_ _) | (with_reducible refine Below.drew ?_) | (with_reducible refine bl_alloc ?_ _) | (with_reducible refine bl_set ?_ ?_ _) | go_size | omega)))⟩
            · have HPNN := Lib.hid (psBad_rs hg)
              have qq := (Lib.bytes_beq_false_iff _ _).2 (fun h => hg (HGD.out.2 h))
              have ST := Lib.hid (fun w' => st_spec p q N w')
              clear hg
              generalize sOf (sText p q N) = tt at *
              go_wp2_with fail
              first | rw [EN.out] | rw [EM.out] | skip
              with_reducible refine Calls.mono (ST.out _) ?_
              rintro e w5 ⟨rfl, hb⟩
              have hw := bl_behind (w := w) hb (by have hb0 := HB.out; repeat (first | (with_reducible exact hb0) | (with_reducible refine below_drewN ?_ _) | (with_reducible refine Below.drew ?_) | (with_reducible refine bl_alloc ?_ _))); have bx := Blk.below (g := w.heap.size) (t := 24) (cs := #[.int .i64 p, .int .i64 q]) (by repeat (first | (with_reducible exact Bx.out) | (with_reducible exact Blk.new _ _ _) | (with_reducible refine Blk.drewN ?_ _) | (with_reducible refine Blk.drew ?_) | (with_reducible refine Blk.alloc ?_ _))) hb (by first | (have := Bx.out.lt; first | omega | (simp; omega)) | (simp; done) | (simp; omega)); have Bx := Lib.hid bx; obtain ⟨kx0, kx1, fx0, fx1, lx⟩ := blk2 bx; clear bx; have HB := Lib.hid hw; clear hw hb
              go_wp2_with fail
              go_ret2
              exact ⟨ret_rs HPNN.out, (by have hb := HB.out; exact (by repeat' (first | (with_reducible exact Below.refl _ _) | (with_reducible assumption) | (with_reducible refine below_drewN ?_ _) | (with_reducible refine Below.drew ?_) | (with_reducible refine bl_alloc ?_ _) | (with_reducible refine bl_set ?_ ?_ _) | go_size | omega)))⟩
          · skip
            obtain ⟨V, hV⟩ : ∃ V : Int, (x : Int) * 2 ^ q.toNat / (c : Int) = V := ⟨_, rfl⟩
            have hV0 : 0 ≤ V := by rw [← hV]; exact Int.ediv_nonneg (Int.mul_nonneg (by omega) (by omega)) (by omega)
            have hV1 : V ≤ 65536 := by
              rw [← hV]
              have : (x : Int) * 2 ^ q.toNat / (c : Int) < 2 ^ q.toNat + 1 := by
                rw [Int.ediv_lt_iff_lt_mul (by omega)]
                have := Int.mul_le_mul_of_nonneg_right (show (x : Int) ≤ c by omega) (show 0 ≤ (2 : Int) ^ q.toNat by omega)
                rw [Int.add_mul, Int.mul_comm (2 ^ q.toNat) (c : Int)]
                omega
              omega
            obtain ⟨N, hNN⟩ : ∃ N, 1 * (y * 2 ^ q.toNat + V) = N := ⟨_, rfl⟩
            have HPN := Lib.hid (show psN q s.data.toList = N by unfold psN; rw [HSG.out, HW.out, HR.out]; dsimp only; rw [hV, hNN])
            have hy2 := Int.mul_le_mul_of_nonneg_left b2 y0
            have hy3 := Int.mul_nonneg y0 (show 0 ≤ (2 : Int) ^ q.toNat by omega)
            have e1 : wrap64 (y * 2 ^ q.toNat) = y * 2 ^ q.toNat := wr64 (by omega) (by omega)
            have e1' : IntKind.i64.wrap (y * 2 ^ q.toNat) = y * 2 ^ q.toNat := IntWalk.i64_in _ (by omega)
            have e2 : IntKind.i64.wrap (y * 2 ^ q.toNat + V) = y * 2 ^ q.toNat + V := IntWalk.i64_in _ (by omega)
            have e3 : IntKind.i64.wrap (1 * (y * 2 ^ q.toNat + V)) = N := by rw [hNN]; exact IntWalk.i64_in _ (by omega)
            have SV := Lib.hid (show ∀ w', Calls Tryz.prog 65 #[.int .i64 x, .int .i64 c, .int .i64 q] w' fun e w'' => e = .returned (.int .i64 ((x : Int) * 2 ^ q.toNat / (c : Int))) ∧ w'' = w' from fun w' => (scale_any x c q w' (by omega) (by omega) (by omega) h3 h4).mono fun _ _ hh => ⟨hh.1, hh.2.symm⟩)
            rw [hV] at SV
            have EN : Hid (wrap64 (y * 2 ^ q.toNat + V) = N) := Lib.hid ((wr64 (by omega) (by omega)).trans (by rw [← hNN]; omega))
            have EM : Hid (y * 2 ^ q.toNat + V = N) := Lib.hid (by rw [← hNN]; omega)
            clear hV hNN hy2 hy3 hV0 hV1
            go_wp2_with fail
            go_quiet ((go_at_call 65; exact Calls.quiet_of_same (SV.out _)))
            clear e1 e1' e2 e3
            have hpn := psBad_rs (p := p) (q := q) (s := s) (fun h => by
              have h1 := h.1
              rw [HR.out] at h1
              have := congrArg List.length h1
              simp at this
              omega)
            have HPNN := Lib.hid hpn
            clear hpn
            have hal : ¬ (a : Int) = (s.size : Int) := by omega
            go_wp2_with fail
            go_ret2
            exact ⟨ret_rs HPNN.out, (by have hb := HB.out; exact (by repeat' (first | (with_reducible exact Below.refl _ _) | (with_reducible assumption) | (with_reducible refine below_drewN ?_ _) | (with_reducible refine Below.drew ?_) | (with_reducible refine bl_alloc ?_ _) | (with_reducible refine bl_set ?_ ?_ _) | go_size | omega)))⟩
      · have HR := Lib.hid (p_none HW.out (fun _ => h46))
        have bb2 := byte_no h46 (n := 46) rfl
        obtain ⟨V, hV⟩ : ∃ V : Int, (0 : Int) * 2 ^ q.toNat / (1 : Int) = V := ⟨_, rfl⟩
        have hV0 : 0 ≤ V := by rw [← hV]; exact Int.ediv_nonneg (Int.mul_nonneg (by omega) (by omega)) (by omega)
        have hV1 : V ≤ 65536 := by
          rw [← hV]
          have : (0 : Int) * 2 ^ q.toNat / (1 : Int) < 2 ^ q.toNat + 1 := by
            rw [Int.ediv_lt_iff_lt_mul (by omega)]
            have := Int.mul_le_mul_of_nonneg_right (show (0 : Int) ≤ 1 by omega) (show 0 ≤ (2 : Int) ^ q.toNat by omega)
            rw [Int.add_mul, Int.mul_comm (2 ^ q.toNat) (1 : Int)]
            omega
          omega
        obtain ⟨N, hNN⟩ : ∃ N, 1 * (y * 2 ^ q.toNat + V) = N := ⟨_, rfl⟩
        have HPN := Lib.hid (show psN q s.data.toList = N by unfold psN; rw [HSG.out, HW.out, HR.out]; dsimp only; rw [hV, hNN])
        have hy2 := Int.mul_le_mul_of_nonneg_left b2 y0
        have hy3 := Int.mul_nonneg y0 (show 0 ≤ (2 : Int) ^ q.toNat by omega)
        have e1 : wrap64 (y * 2 ^ q.toNat) = y * 2 ^ q.toNat := wr64 (by omega) (by omega)
        have e1' : IntKind.i64.wrap (y * 2 ^ q.toNat) = y * 2 ^ q.toNat := IntWalk.i64_in _ (by omega)
        have e2 : IntKind.i64.wrap (y * 2 ^ q.toNat + V) = y * 2 ^ q.toNat + V := IntWalk.i64_in _ (by omega)
        have e3 : IntKind.i64.wrap (1 * (y * 2 ^ q.toNat + V)) = N := by rw [hNN]; exact IntWalk.i64_in _ (by omega)
        have SV := Lib.hid (show ∀ w', Calls Tryz.prog 65 #[.int .i64 0, .int .i64 1, .int .i64 q] w' fun e w'' => e = .returned (.int .i64 ((0 : Int) * 2 ^ q.toNat / (1 : Int))) ∧ w'' = w' from fun w' => (scale_any 0 1 q w' (by omega) (by omega) (by omega) h3 h4).mono fun _ _ hh => ⟨hh.1, hh.2.symm⟩)
        rw [hV] at SV
        have EN : Hid (wrap64 (y * 2 ^ q.toNat + V) = N) := Lib.hid ((wr64 (by omega) (by omega)).trans (by rw [← hNN]; omega))
        have EM : Hid (y * 2 ^ q.toNat + V = N) := Lib.hid (by rw [← hNN]; omega)
        clear hV hNN hy2 hy3 hV0 hV1
        go_wp2_with fail
        go_quiet ((go_at_call 65; exact Calls.quiet_of_same (SV.out _)))
        clear e1 e1' e2 e3
        have hpn := psBad_rs (p := p) (q := q) (s := s) (fun h => by
          have h1 := h.1
          rw [HR.out] at h1
          have := congrArg List.length h1
          simp at this
          omega)
        have HPNN := Lib.hid hpn
        clear hpn
        have hal : ¬ (a : Int) = (s.size : Int) := by omega
        go_wp2_with fail
        go_ret2
        exact ⟨ret_rs HPNN.out, (by have hb := HB.out; exact (by repeat' (first | (with_reducible exact Below.refl _ _) | (with_reducible assumption) | (with_reducible refine below_drewN ?_ _) | (with_reducible refine Below.drew ?_) | (with_reducible refine bl_alloc ?_ _) | (with_reducible refine bl_set ?_ ?_ _) | go_size | omega)))⟩
    · have HR := Lib.hid (p_none HW.out (fun h => absurd h hlt))
      obtain rfl : a = s.size := by omega
      obtain ⟨V, hV⟩ : ∃ V : Int, (0 : Int) * 2 ^ q.toNat / (1 : Int) = V := ⟨_, rfl⟩
      have hV0 : 0 ≤ V := by rw [← hV]; exact Int.ediv_nonneg (Int.mul_nonneg (by omega) (by omega)) (by omega)
      have hV1 : V ≤ 65536 := by
        rw [← hV]
        have : (0 : Int) * 2 ^ q.toNat / (1 : Int) < 2 ^ q.toNat + 1 := by
          rw [Int.ediv_lt_iff_lt_mul (by omega)]
          have := Int.mul_le_mul_of_nonneg_right (show (0 : Int) ≤ 1 by omega) (show 0 ≤ (2 : Int) ^ q.toNat by omega)
          rw [Int.add_mul, Int.mul_comm (2 ^ q.toNat) (1 : Int)]
          omega
        omega
      obtain ⟨N, hNN⟩ : ∃ N, 1 * (y * 2 ^ q.toNat + V) = N := ⟨_, rfl⟩
      have HPN := Lib.hid (show psN q s.data.toList = N by unfold psN; rw [HSG.out, HW.out, HR.out]; dsimp only; rw [hV, hNN])
      have hy2 := Int.mul_le_mul_of_nonneg_left b2 y0
      have hy3 := Int.mul_nonneg y0 (show 0 ≤ (2 : Int) ^ q.toNat by omega)
      have e1 : wrap64 (y * 2 ^ q.toNat) = y * 2 ^ q.toNat := wr64 (by omega) (by omega)
      have e1' : IntKind.i64.wrap (y * 2 ^ q.toNat) = y * 2 ^ q.toNat := IntWalk.i64_in _ (by omega)
      have e2 : IntKind.i64.wrap (y * 2 ^ q.toNat + V) = y * 2 ^ q.toNat + V := IntWalk.i64_in _ (by omega)
      have e3 : IntKind.i64.wrap (1 * (y * 2 ^ q.toNat + V)) = N := by rw [hNN]; exact IntWalk.i64_in _ (by omega)
      have SV := Lib.hid (show ∀ w', Calls Tryz.prog 65 #[.int .i64 0, .int .i64 1, .int .i64 q] w' fun e w'' => e = .returned (.int .i64 ((0 : Int) * 2 ^ q.toNat / (1 : Int))) ∧ w'' = w' from fun w' => (scale_any 0 1 q w' (by omega) (by omega) (by omega) h3 h4).mono fun _ _ hh => ⟨hh.1, hh.2.symm⟩)
      rw [hV] at SV
      have EN : Hid (wrap64 (y * 2 ^ q.toNat + V) = N) := Lib.hid ((wr64 (by omega) (by omega)).trans (by rw [← hNN]; omega))
      have EM : Hid (y * 2 ^ q.toNat + V = N) := Lib.hid (by rw [← hNN]; omega)
      clear hV hNN hy2 hy3 hV0 hV1
      go_wp2_with fail
      go_quiet ((go_at_call 65; exact Calls.quiet_of_same (SV.out _)))
      clear e1 e1' e2 e3
      have HGD := Lib.hid (show psGood p q s.data.toList ↔ sOf (sText p q N) = s from by
        unfold psGood
        rw [HPN.out, HR.out]
        refine ⟨fun h => by rw [h.2.2]; exact sOf_list s, fun h => ⟨?_, HNIL.out, ?_⟩⟩
        · exact List.drop_eq_nil_of_le (by simp)
        · rw [← h]; rfl)
      by_cases hg : psGood p q s.data.toList
      · have HPNN := Lib.hid (show rsN p q s = N ∧ rsOk p q s = true by have := psGood_rs hg; rw [HPN.out] at this; exact this)
        have qq := (Lib.bytes_beq_iff _ _).2 (HGD.out.1 hg)
        have ST := Lib.hid (fun w' => st_spec p q N w')
        clear hg
        generalize sOf (sText p q N) = tt at *
        go_wp2_with fail
        first | rw [EN.out] | rw [EM.out] | skip
        with_reducible refine Calls.mono (ST.out _) ?_
        rintro e w5 ⟨rfl, hb⟩
        have hw := bl_behind (w := w) hb (by have hb0 := HB.out; repeat (first | (with_reducible exact hb0) | (with_reducible refine below_drewN ?_ _) | (with_reducible refine Below.drew ?_) | (with_reducible refine bl_alloc ?_ _))); have bx := Blk.below (g := w.heap.size) (t := 24) (cs := #[.int .i64 p, .int .i64 q]) (by repeat (first | (with_reducible exact Bx.out) | (with_reducible exact Blk.new _ _ _) | (with_reducible refine Blk.drewN ?_ _) | (with_reducible refine Blk.drew ?_) | (with_reducible refine Blk.alloc ?_ _))) hb (by first | (have := Bx.out.lt; first | omega | (simp; omega)) | (simp; done) | (simp; omega)); have Bx := Lib.hid bx; obtain ⟨kx0, kx1, fx0, fx1, lx⟩ := blk2 bx; clear bx; have HB := Lib.hid hw; clear hw hb
        go_wp2_with fail
        go_ret2
        exact ⟨ret_rs HPNN.out, (by have hb := HB.out; exact (by repeat' (first | (with_reducible exact Below.refl _ _) | (with_reducible assumption) | (with_reducible refine below_drewN ?_ _) | (with_reducible refine Below.drew ?_) | (with_reducible refine bl_alloc ?_ _) | (with_reducible refine bl_set ?_ ?_ _) | go_size | omega)))⟩
      · have HPNN := Lib.hid (psBad_rs hg)
        have qq := (Lib.bytes_beq_false_iff _ _).2 (fun h => hg (HGD.out.2 h))
        have ST := Lib.hid (fun w' => st_spec p q N w')
        clear hg
        generalize sOf (sText p q N) = tt at *
        go_wp2_with fail
        first | rw [EN.out] | rw [EM.out] | skip
        with_reducible refine Calls.mono (ST.out _) ?_
        rintro e w5 ⟨rfl, hb⟩
        have hw := bl_behind (w := w) hb (by have hb0 := HB.out; repeat (first | (with_reducible exact hb0) | (with_reducible refine below_drewN ?_ _) | (with_reducible refine Below.drew ?_) | (with_reducible refine bl_alloc ?_ _))); have bx := Blk.below (g := w.heap.size) (t := 24) (cs := #[.int .i64 p, .int .i64 q]) (by repeat (first | (with_reducible exact Bx.out) | (with_reducible exact Blk.new _ _ _) | (with_reducible refine Blk.drewN ?_ _) | (with_reducible refine Blk.drew ?_) | (with_reducible refine Blk.alloc ?_ _))) hb (by first | (have := Bx.out.lt; first | omega | (simp; omega)) | (simp; done) | (simp; omega)); have Bx := Lib.hid bx; obtain ⟨kx0, kx1, fx0, fx1, lx⟩ := blk2 bx; clear bx; have HB := Lib.hid hw; clear hw hb
        go_wp2_with fail
        go_ret2
        exact ⟨ret_rs HPNN.out, (by have hb := HB.out; exact (by repeat' (first | (with_reducible exact Below.refl _ _) | (with_reducible assumption) | (with_reducible refine below_drewN ?_ _) | (with_reducible refine Below.drew ?_) | (with_reducible refine bl_alloc ?_ _) | (with_reducible refine bl_set ?_ ?_ _) | go_size | omega)))⟩
end Go.Proofs.YtidnnnjjpjadlaaGreatDoor
