/- ModPower. No condition: contracts for the walks of the laws. -/
import Derived.Test.YtdpekaejklmomaaMod
namespace Go.Proofs.Ytdpekaejklmomaa
open Go.ChangeShapes Go.WideShapes Go.ChangeAt Go.RowKit


set_option maxHeartbeats 1000000 in
theorem modpow_impl (a e m : Int) (w : World) : Calls Try.prog 16 #[.int .i64 a, .int .i64 e, .int .i64 m] w fun E w' => E = .returned (.int .i64 (modPow a e m)) ∧ ∃ n, w' = w.drewN n := by
  by_cases h : mpOk a e m
  · have HE := Lib.hid (modPow_in h)
    obtain ⟨a1, a2, e1, e2, m1, m2⟩ := h
    obtain ⟨q1, q2⟩ := emod_bd 1 m1
    obtain ⟨q3, q4⟩ := emod_bd a m1
    go_enter Try.func16, Try.ntmps16
    go_wp2
    go_quiet (fail); go_wp2
    go_loopw [7, 8, 1] (fun i j k wr => ∃ (p s x : Int) (n : Nat), i = .int .i64 p ∧ j = .int .i64 s ∧ k = .int .i64 x ∧ wr = w.drewN n ∧ 0 ≤ p ∧ p < m ∧ 0 ≤ s ∧ s < m ∧ 0 ≤ x ∧ x ≤ 1152921504606846976 ∧ Hid (p * s ^ x.toNat % m = a ^ e.toNat % m)) (fun _ _ k _ => (RowKit.intOf k).toNat)
    case atStart => exact ⟨1 % m, a % m, e, nq, rfl, rfl, rfl, rfl, q1, q2, q3, q4, e1, e2, Lib.hid mp_start⟩
    case round =>
      obtain ⟨p, s, x, n, rfl, rfl, rfl, rfl, p0, p1, s0, s1, x0, x1, HR⟩ := hrel
      clear q1 q2 q3 q4
      by_cases hx : x = 0
      · subst hx
        have hr := HR.out
        rw [show (0 : Int).toNat = 0 from rfl, Int.pow_zero, Int.mul_one, Int.emod_eq_of_lt p0 p1] at hr
        have HF := Lib.hid (hr.trans HE.out)
        clear hr
        go_wp2
        go_ret
        exact ⟨ret_int HF.out, n, rfl⟩
      · obtain ⟨t1, t2⟩ := small_mul m1 m2 p0 p1 s0 s1
        obtain ⟨t3, t4⟩ := small_mul m1 m2 s0 s1 s0 s1
        obtain ⟨u1, u2⟩ := emod_bd (p * s) m1
        obtain ⟨u3, u4⟩ := emod_bd (s * s) m1
        have hb : bits .and .i64 x 1 = x % 2 := bits_and_one
        rcases (by omega : x % 2 = 1 ∨ x % 2 = 0) with h2 | h2
        · have HN := Lib.hid ((mp_odd (p := p) (s := s) (m := m) x0 h2).trans HR.out)
          go_wp2
          go_roundw
          case rel => exact ⟨p * s % m, s * s % m, x / 2, n, by first | rfl | go_num, by first | rfl | go_num, by first | rfl | go_num, rfl, u1, u2, u3, u4, by omega, by omega, HN⟩
          case measure => simp [RowKit.intOf]; omega
        · have HN := Lib.hid ((mp_even (p := p) (s := s) (m := m) x0 h2).trans HR.out)
          go_wp2
          go_roundw
          case rel => exact ⟨p, s * s % m, x / 2, n, by first | rfl | go_num, by first | rfl | go_num, by first | rfl | go_num, rfl, p0, p1, u3, u4, by omega, by omega, HN⟩
          case measure => simp [RowKit.intOf]; omega
  · have HE := Lib.hid (modPow_out h)
    unfold mpOk at h
    rcases (by omega : a < 0 ∨ (0 ≤ a ∧ 999999 < a) ∨ (0 ≤ a ∧ a ≤ 999999 ∧ e < 0) ∨ (0 ≤ a ∧ a ≤ 999999 ∧ 0 ≤ e ∧ 1152921504606846976 < e) ∨ (0 ≤ a ∧ a ≤ 999999 ∧ 0 ≤ e ∧ e ≤ 1152921504606846976 ∧ m < 1) ∨ (0 ≤ a ∧ a ≤ 999999 ∧ 0 ≤ e ∧ e ≤ 1152921504606846976 ∧ 1 ≤ m ∧ 1000000 < m)) with h1 | ⟨h1, h2⟩ | ⟨h1, h2, h3⟩ | ⟨h1, h2, h3, h4⟩ | ⟨h1, h2, h3, h4, h5⟩ | ⟨h1, h2, h3, h4, h5, h6⟩
    all_goals
      clear h
      go_enter Try.func16, Try.ntmps16
      go_wp2
      go_ret
      exact ⟨ret_int HE.out, 0, rfl⟩

set_option maxHeartbeats 1000000 in
theorem modpow_spec (a e m : Int) (w : World) : Calls Try.prog 15 #[.int .i64 a, .int .i64 e, .int .i64 m] w fun E w' => E = .returned (.int .i64 (modPow a e m)) ∧ ∃ n, w' = w.drewN n := by
  by_cases h : mpOk a e m
  · have HE := Lib.hid (modPow_in h)
    obtain ⟨a1, a2, e1, e2, m1, m2⟩ := h
    obtain ⟨q1, q2⟩ := emod_bd 1 m1
    obtain ⟨q3, q4⟩ := emod_bd a m1
    go_enter Try.func15, Try.ntmps15
    go_wp2_with (first | (go_at_call 46; refine (l1in_yes _ _ _ _ (by omega) (by omega)).mono ?_; rintro e w' ⟨rfl, rfl⟩) | (go_at_call 46; refine (l1in_no _ _ _ _ (by omega)).mono ?_; rintro e w' ⟨rfl, rfl⟩) | go_in)
    skip
    go_loopw [7, 0, 1] (fun i j k wr => ∃ (p s x : Int) (n : Nat), i = .int .i64 p ∧ j = .int .i64 s ∧ k = .int .i64 x ∧ wr = w.drewN n ∧ 0 ≤ p ∧ p < m ∧ 0 ≤ s ∧ s < m ∧ 0 ≤ x ∧ x ≤ 1152921504606846976 ∧ Hid (p * s ^ x.toNat % m = a ^ e.toNat % m)) (fun _ _ k _ => (RowKit.intOf k).toNat)
    case atStart => exact ⟨1 % m, a % m, e, 0, rfl, rfl, rfl, rfl, q1, q2, q3, q4, e1, e2, Lib.hid mp_start⟩
    case round =>
      obtain ⟨p, s, x, n, rfl, rfl, rfl, rfl, p0, p1, s0, s1, x0, x1, HR⟩ := hrel
      clear q1 q2 q3 q4
      by_cases hx : x = 0
      · subst hx
        have hr := HR.out
        rw [show (0 : Int).toNat = 0 from rfl, Int.pow_zero, Int.mul_one, Int.emod_eq_of_lt p0 p1] at hr
        have HF := Lib.hid (hr.trans HE.out)
        clear hr
        go_wp2
        go_ret
        exact ⟨ret_int HF.out, n, rfl⟩
      · obtain ⟨t1, t2⟩ := small_mul m1 m2 p0 p1 s0 s1
        obtain ⟨t3, t4⟩ := small_mul m1 m2 s0 s1 s0 s1
        obtain ⟨u1, u2⟩ := emod_bd (p * s) m1
        obtain ⟨u3, u4⟩ := emod_bd (s * s) m1
        have hb : x.tmod 2 = x % 2 := Int.tmod_eq_emod_of_nonneg x0
        rcases (by omega : x % 2 = 1 ∨ x % 2 = 0) with h2 | h2
        · have HN := Lib.hid ((mp_odd (p := p) (s := s) (m := m) x0 h2).trans HR.out)
          go_wp2
          go_roundw
          case rel => exact ⟨p * s % m, s * s % m, x / 2, n, by first | rfl | go_num, by first | rfl | go_num, by first | rfl | go_num, rfl, u1, u2, u3, u4, by omega, by omega, HN⟩
          case measure => simp [RowKit.intOf]; omega
        · have HN := Lib.hid ((mp_even (p := p) (s := s) (m := m) x0 h2).trans HR.out)
          go_wp2
          go_roundw
          case rel => exact ⟨p, s * s % m, x / 2, n, by first | rfl | go_num, by first | rfl | go_num, by first | rfl | go_num, rfl, p0, p1, u3, u4, by omega, by omega, HN⟩
          case measure => simp [RowKit.intOf]; omega
  · have HE := Lib.hid (modPow_out h)
    unfold mpOk at h
    rcases (by omega : a < 0 ∨ (0 ≤ a ∧ 999999 < a) ∨ (0 ≤ a ∧ a ≤ 999999 ∧ e < 0) ∨ (0 ≤ a ∧ a ≤ 999999 ∧ 0 ≤ e ∧ 1152921504606846976 < e) ∨ (0 ≤ a ∧ a ≤ 999999 ∧ 0 ≤ e ∧ e ≤ 1152921504606846976 ∧ m < 1) ∨ (0 ≤ a ∧ a ≤ 999999 ∧ 0 ≤ e ∧ e ≤ 1152921504606846976 ∧ 1 ≤ m ∧ 1000000 < m)) with h1 | ⟨h1, h2⟩ | ⟨h1, h2, h3⟩ | ⟨h1, h2, h3, h4⟩ | ⟨h1, h2, h3, h4, h5⟩ | ⟨h1, h2, h3, h4, h5, h6⟩
    all_goals
      clear h
      go_enter Try.func15, Try.ntmps15
      go_wp2_with (first | (go_at_call 46; refine (l1in_yes _ _ _ _ (by omega) (by omega)).mono ?_; rintro e w' ⟨rfl, rfl⟩) | (go_at_call 46; refine (l1in_no _ _ _ _ (by omega)).mono ?_; rintro e w' ⟨rfl, rfl⟩) | go_in)
      go_ret
      exact ⟨ret_int HE.out, 0, rfl⟩

end Go.Proofs.Ytdpekaejklmomaa
