/- ModInverse. No condition: contracts for the walks of the laws. -/
import Derived.Test.YtdpekaejklmomaaMod
import Derived.Test.YtdpekaejklmomaaGcd
namespace Go.Proofs.Ytdpekaejklmomaa
open Go.ChangeShapes Go.WideShapes Go.ChangeAt Go.RowKit


/-- What ModInverse answers: the inverse, or -1. -/
def InvIs (a m x : Int) : Prop := (0 ≤ a ∧ a ≤ 999999 ∧ 2 ≤ m ∧ m ≤ 1000000 ∧ Int.gcd a m = 1 ∧ 0 ≤ x ∧ x < m ∧ m ∣ x * a - 1) ∨ (¬ (0 ≤ a ∧ a ≤ 999999 ∧ 2 ≤ m ∧ m ≤ 1000000 ∧ Int.gcd a m = 1) ∧ x = -1)
theorem InvIs.only {a m x y : Int} (h : InvIs a m x) (h' : InvIs a m y) : x = y := by
  rcases h with ⟨h1, h2, h3, h4, h5, x0, x1, hx⟩ | ⟨hn, rfl⟩
  · rcases h' with ⟨-, -, -, -, -, y0, y1, hy⟩ | ⟨hn', -⟩
    · have e : m ∣ x - y := by
        have e1 : x - y = y * (x * a - 1) - x * (y * a - 1) := by grind
        rw [e1]
        exact Int.dvd_sub (Int.dvd_mul_of_dvd_right hx) (Int.dvd_mul_of_dvd_right hy)
      obtain ⟨k, hk⟩ := e
      rcases (by omega : k = 0 ∨ 1 ≤ k ∨ k ≤ -1) with rfl | hk1 | hk1
      · omega
      · have := Int.mul_le_mul_of_nonneg_left hk1 (show 0 ≤ m by omega); omega
      · have := Int.mul_le_mul_of_nonneg_left hk1 (show 0 ≤ m by omega); omega
    · exact absurd ⟨h1, h2, h3, h4, h5⟩ hn'
  · rcases h' with ⟨h1, h2, h3, h4, h5, -⟩ | ⟨-, rfl⟩
    · exact absurd ⟨h1, h2, h3, h4, h5⟩ hn
    · rfl
/-- What the rounds hold: r by f, s by g. -/
def EuRel (a m r s f g : Int) : Prop := 0 ≤ r ∧ r ≤ m ∧ 0 ≤ s ∧ s ≤ m ∧ 1 ≤ r + s ∧ m ∣ f * a - r ∧ m ∣ g * a - s ∧ (f.natAbs : Int) * s + (g.natAbs : Int) * r ≤ m ∧ (f.natAbs : Int) ≤ m ∧ (g.natAbs : Int) ≤ m ∧ Int.gcd r s = Int.gcd a m
theorem gcd_emod {a : Int} (m : Int) (h : 0 ≤ a) : Int.gcd (a % m) m = Int.gcd a m := by rw [← Int.tmod_eq_emod_of_nonneg h, Int.gcd_comm, gcd_step]
theorem eu_start1 {a m : Int} (ha : 0 ≤ a) (hm : 2 ≤ m) : EuRel a m m (a % m) 0 1 := by
  have h := emod_bd a (show 1 ≤ m by omega)
  refine ⟨by omega, by omega, by omega, by omega, by omega, ⟨-1, by omega⟩, ⟨a / m, by have := Int.mul_ediv_add_emod a m; omega⟩, by simp, by simp; omega, by simp; omega, ?_⟩
  rw [Int.gcd_comm, gcd_emod m ha]
theorem eu_start2 {a m : Int} (ha : 0 ≤ a) (hm : 2 ≤ m) : EuRel a m (a % m) m 1 0 := by
  have h := emod_bd a (show 1 ≤ m by omega)
  refine ⟨by omega, by omega, by omega, by omega, by omega, ⟨a / m, by have := Int.mul_ediv_add_emod a m; omega⟩, ⟨-1, by omega⟩, by simp, by simp; omega, by simp; omega, gcd_emod m ha⟩
theorem eu_bds {a m r s f g : Int} (h : EuRel a m r s f g) (hs : 0 < s) : 0 ≤ r / s ∧ r / s ≤ m ∧ 0 ≤ r / s * s ∧ r / s * s ≤ r ∧ r - r / s * s < s ∧ -m ≤ r / s * g ∧ r / s * g ≤ m := by
  obtain ⟨h1, h2, h3, h4, h5, h6, h7, h8, h9, h10, h11⟩ := h
  have e := ediv_bd (a := r) hs
  have q0 : 0 ≤ r / s := Int.ediv_nonneg h1 (by omega)
  have q1 : r / s ≤ r := Int.ediv_le_self _ h1
  have e1 : 0 ≤ r / s * s := Int.mul_nonneg q0 (by omega)
  have e2 : (r / s * g).natAbs ≤ m.toNat := by
    rw [Int.natAbs_mul]
    have e3 : ((r / s).natAbs * g.natAbs : Nat) ≤ r.natAbs * g.natAbs := Nat.mul_le_mul_right _ (by omega)
    have e4 : (0 : Int) ≤ (f.natAbs : Int) * s := Int.mul_nonneg (by omega) (by omega)
    have e5 : ((r.natAbs * g.natAbs : Nat) : Int) = (g.natAbs : Int) * r := by rw [Int.natCast_mul, Int.mul_comm]; congr 1; omega
    omega
  exact ⟨q0, by omega, e1, by omega, by omega, by omega, by omega⟩
theorem eu_step {a m r s f g : Int} (h : EuRel a m r s f g) (hs : 0 < s) : EuRel a m s (r - r / s * s) g (f - r / s * g) := by
  obtain ⟨b1, b2, b3, b4, b5, b6, b7⟩ := eu_bds h hs
  obtain ⟨h1, h2, h3, h4, h5, h6, h7, h8, h9, h10, h11⟩ := h
  have key : ((f - r / s * g).natAbs : Int) * s + (g.natAbs : Int) * (r - r / s * s) ≤ m := by
    have e1 : ((f - r / s * g).natAbs : Int) ≤ (f.natAbs : Int) + (r / s) * (g.natAbs : Int) := by
      have e2 : (f - r / s * g).natAbs ≤ f.natAbs + (r / s * g).natAbs := by omega
      rw [Int.natAbs_mul] at e2
      have e3 : (((r / s).natAbs * g.natAbs : Nat) : Int) = (r / s) * (g.natAbs : Int) := by rw [Int.natCast_mul]; congr 1; omega
      omega
    have e4 := Int.mul_le_mul_of_nonneg_right e1 (show 0 ≤ s by omega)
    have e5 : ((f.natAbs : Int) + (r / s) * (g.natAbs : Int)) * s + (g.natAbs : Int) * (r - r / s * s) = (f.natAbs : Int) * s + (g.natAbs : Int) * r := by grind
    omega
  refine ⟨h3, h4, by omega, by omega, by omega, h7, ?_, by omega, h10, ?_, ?_⟩
  · have e : (f - r / s * g) * a - (r - r / s * s) = (f * a - r) - r / s * (g * a - s) := by grind
    rw [e]
    exact Int.dvd_sub h6 (Int.dvd_mul_of_dvd_right h7)
  · have e4 : (0 : Int) ≤ (g.natAbs : Int) * (r - r / s * s) := Int.mul_nonneg (by omega) (by omega)
    have e5 := Int.mul_le_mul_of_nonneg_left (show 1 ≤ s by omega) (show (0 : Int) ≤ ((f - r / s * g).natAbs : Int) by omega)
    omega
  · rw [← h11, show r - r / s * s = r % s by have := Int.mul_ediv_add_emod r s; rw [Int.mul_comm] at this; omega, Int.gcd_comm s, gcd_emod s h1]
theorem eu_end {a m r f g : Int} (h : EuRel a m r 0 f g) : r = Int.gcd a m ∧ (-m ≤ f ∧ f ≤ m) ∧ 1 ≤ r ∧ r ≤ m := by
  obtain ⟨h1, h2, h3, h4, h5, h6, h7, h8, h9, h10, h11⟩ := h
  rw [Int.gcd_zero_right] at h11
  omega
theorem inv_no {a m : Int} (h : ¬ (0 ≤ a ∧ a ≤ 999999 ∧ 2 ≤ m ∧ m ≤ 1000000 ∧ Int.gcd a m = 1)) : InvIs a m (-1) := .inr ⟨h, rfl⟩
theorem inv_yes {a m f g x : Int} (h1 : 0 ≤ a) (h2 : a ≤ 999999) (h3 : 2 ≤ m) (h4 : m ≤ 1000000) (h : EuRel a m 1 0 f g) (hx : x = f % m) : InvIs a m x := by
  subst hx
  have e := emod_bd f (show 1 ≤ m by omega)
  have e1 := (eu_end h).1
  obtain ⟨-, -, -, -, -, h6, -⟩ := h
  refine .inl ⟨h1, h2, h3, h4, by omega, e.1, e.2, ?_⟩
  have e2 : f % m * a - 1 = (f * a - 1) - m * (f / m * a) := by
    have := Int.emod_def f m
    rw [this]; grind
  rw [e2]
  exact Int.dvd_sub h6 (Int.dvd_mul_right _ _)
theorem tmod_fix {f m : Int} (hm : 1 ≤ m) : (-m < f.tmod m ∧ f.tmod m < m) ∧ (f.tmod m + m) % m = f % m := by
  have h1 := Int.mul_tdiv_add_tmod f m
  have h2 := Int.lt_tmod_of_pos f (show 0 < m by omega)
  have h3 := Int.tmod_lt_of_pos f (show 0 < m by omega)
  refine ⟨⟨h2, h3⟩, ?_⟩
  have e : f = f.tmod m + m * f.tdiv m := by omega
  rw [Int.add_emod_right]
  conv => rhs; rw [e]
  rw [Int.add_mul_emod_self_left]

set_option maxHeartbeats 1000000 in
theorem inv_impl (a m : Int) (w : World) : Calls Try.prog 20 #[.int .i64 a, .int .i64 m] w fun E w' => (∃ x, E = .returned (.int .i64 x) ∧ InvIs a m x) ∧ ∃ n, w' = w.drewN n := by
  by_cases h : 0 ≤ a ∧ a ≤ 999999 ∧ 2 ≤ m ∧ m ≤ 1000000
  · skip
    obtain ⟨h1, h2, m1, m2⟩ := h
    obtain ⟨q1, q2⟩ := emod_bd a (show 1 ≤ m by omega)
    go_enter Try.func20, Try.ntmps20
    go_wp2_with fail
    go_quiet (fail)
    go_wp2_with fail
    go_loopw [5, 6, 7, 8] (fun i j k l wr => ∃ (r s f g : Int) (n : Nat), i = .int .i64 r ∧ j = .int .i64 s ∧ k = .int .i64 f ∧ l = .int .i64 g ∧ wr = w.drewN n ∧ Hid (EuRel a m r s f g)) (fun _ j _ _ _ => (RowKit.intOf j).toNat)
    case atStart => exact ⟨m, a % m, 0, 1, _, rfl, rfl, rfl, rfl, rfl, Lib.hid (eu_start1 h1 m1)⟩
    case round =>
      obtain ⟨r, s, f, g, n, rfl, rfl, rfl, rfl, rfl, HR⟩ := hrel
      have hr := HR.out
      obtain ⟨r0, r1, s0, s1, rs, -, -, -, f0, g0, hgc⟩ := hr
      have HG := Lib.hid hgc
      clear hgc q1 q2
      have f1 : -m ≤ f := by omega
      have f2 : f ≤ m := by omega
      have g1 : -m ≤ g := by omega
      have g2 : g ≤ m := by omega
      clear f0 g0
      by_cases hs : s = 0
      · subst hs
        have hg := HG.out
        rw [Int.gcd_zero_right] at hg
        by_cases hr1 : r = 1
        · subst hr1
          have hx := (tmod_fix (f := f) (m := m) (by omega))
          obtain ⟨⟨x1, x2⟩, x3⟩ := hx
          have HX := Lib.hid (inv_yes h1 h2 m1 m2 HR.out x3)
          clear x3 hg
          go_wp2
          go_ret
          exact ⟨⟨_, rfl, HX.out⟩, _, rfl⟩
        · have HN := Lib.hid (inv_no (a := a) (m := m) (by omega))
          clear hg
          go_wp2
          go_ret
          exact ⟨⟨_, rfl, HN.out⟩, n, rfl⟩
      · obtain ⟨b1, b2, b3, b4, b5, b6, b7⟩ := eu_bds HR.out (by omega)
        have HN := Lib.hid (eu_step HR.out (by omega))
        go_wp2
        go_roundw
        case rel => exact ⟨s, r - r / s * s, g, f - r / s * g, _, by first | rfl | go_num, by first | rfl | go_num, by first | rfl | go_num, by first | rfl | go_num, by first | rfl | exact World.drewN_drewN .. | (simp only [World.drewN_drewN]; rfl), HN⟩
        case measure => simp [RowKit.intOf]; omega
  · have HN := Lib.hid (inv_no (a := a) (m := m) (by omega))
    rcases (by omega : a < 0 ∨ (0 ≤ a ∧ 999999 < a) ∨ (0 ≤ a ∧ a ≤ 999999 ∧ m < 2) ∨ (0 ≤ a ∧ a ≤ 999999 ∧ 2 ≤ m ∧ 1000000 < m)) with h1 | ⟨h1, h2⟩ | ⟨h1, h2, h3⟩ | ⟨h1, h2, h3, h4⟩
    all_goals
      clear h
      go_enter Try.func20, Try.ntmps20
      go_wp2
      go_ret
      exact ⟨⟨_, rfl, HN.out⟩, 0, rfl⟩

set_option maxHeartbeats 1000000 in
theorem inv_spec (a m : Int) (w : World) : Calls Try.prog 19 #[.int .i64 a, .int .i64 m] w fun E w' => (∃ x, E = .returned (.int .i64 x) ∧ InvIs a m x) ∧ ∃ n, w' = w.drewN n := by
  by_cases h : 0 ≤ a ∧ a ≤ 999999 ∧ 2 ≤ m ∧ m ≤ 1000000
  · skip
    obtain ⟨h1, h2, m1, m2⟩ := h
    obtain ⟨q1, q2⟩ := emod_bd a (show 1 ≤ m by omega)
    have hg := gcdOf_in (a := a) (b := m) (by unfold gcdOk; omega)
    by_cases hgc1 : Int.gcd a m = 1
    · rw [hgc1] at hg
      go_enter Try.func19, Try.ntmps19
      go_wp2_with (first | (go_at_call 46; refine (l1in_yes _ _ _ _ (by omega) (by omega)).mono ?_; rintro e w' ⟨rfl, rfl⟩) | (go_at_call 46; refine (l1in_no _ _ _ _ (by omega)).mono ?_; rintro e w' ⟨rfl, rfl⟩) | (go_at_call 51; refine (gcd_spec _ _ _).mono ?_; rintro e w' ⟨rfl, mm, rfl⟩) | go_in)
      go_loopw [7, 8, 5, 6] (fun i j k l wr => ∃ (r s f g : Int) (n : Nat), i = .int .i64 r ∧ j = .int .i64 s ∧ k = .int .i64 f ∧ l = .int .i64 g ∧ wr = w.drewN n ∧ Hid (EuRel a m r s f g)) (fun _ j _ _ _ => (RowKit.intOf j).toNat)
      case atStart => exact ⟨a % m, m, 1, 0, _, rfl, rfl, rfl, rfl, rfl, Lib.hid (eu_start2 h1 m1)⟩
      case round =>
        obtain ⟨r, s, f, g, n, rfl, rfl, rfl, rfl, rfl, HR⟩ := hrel
        have hr := HR.out
        obtain ⟨r0, r1, s0, s1, rs, -, -, -, f0, g0, hgc⟩ := hr
        have HG := Lib.hid hgc
        clear hgc q1 q2
        have f1 : -m ≤ f := by omega
        have f2 : f ≤ m := by omega
        have g1 : -m ≤ g := by omega
        have g2 : g ≤ m := by omega
        clear f0 g0
        by_cases hs : s = 0
        · subst hs
          have hg := HG.out
          rw [Int.gcd_zero_right] at hg
          have hr1 : r = 1 := by omega
          subst hr1
          · skip
            have hx := (tmod_fix (f := f) (m := m) (by omega))
            obtain ⟨⟨x1, x2⟩, x3⟩ := hx
            have HX := Lib.hid (inv_yes h1 h2 m1 m2 HR.out x3)
            clear x3 hg
            go_wp2
            go_ret
            exact ⟨⟨_, rfl, HX.out⟩, _, rfl⟩
        · obtain ⟨b1, b2, b3, b4, b5, b6, b7⟩ := eu_bds HR.out (by omega)
          have HN := Lib.hid (eu_step HR.out (by omega))
          go_wp2
          go_roundw
          case rel => exact ⟨s, r - r / s * s, g, f - r / s * g, _, by first | rfl | go_num, by first | rfl | go_num, by first | rfl | go_num, by first | rfl | go_num, by first | rfl | exact World.drewN_drewN .. | (simp only [World.drewN_drewN]; rfl), HN⟩
          case measure => simp [RowKit.intOf]; omega

    · have HN := Lib.hid (inv_no (a := a) (m := m) (by omega))
      have hg' : gcdOf a m ≠ 1 := by omega
      clear hg hgc1
      go_enter Try.func19, Try.ntmps19
      go_wp2_with (first | (go_at_call 46; refine (l1in_yes _ _ _ _ (by omega) (by omega)).mono ?_; rintro e w' ⟨rfl, rfl⟩) | (go_at_call 46; refine (l1in_no _ _ _ _ (by omega)).mono ?_; rintro e w' ⟨rfl, rfl⟩) | (go_at_call 51; refine (gcd_spec _ _ _).mono ?_; rintro e w' ⟨rfl, mm, rfl⟩) | go_in)
      go_ret
      exact ⟨⟨_, rfl, HN.out⟩, _, rfl⟩
  · have HN := Lib.hid (inv_no (a := a) (m := m) (by omega))
    rcases (by omega : a < 0 ∨ (0 ≤ a ∧ 999999 < a) ∨ (0 ≤ a ∧ a ≤ 999999 ∧ m < 2) ∨ (0 ≤ a ∧ a ≤ 999999 ∧ 2 ≤ m ∧ 1000000 < m)) with h1 | ⟨h1, h2⟩ | ⟨h1, h2, h3⟩ | ⟨h1, h2, h3, h4⟩
    all_goals
      clear h
      go_enter Try.func19, Try.ntmps19
      go_wp2_with (first | (go_at_call 46; refine (l1in_yes _ _ _ _ (by omega) (by omega)).mono ?_; rintro e w' ⟨rfl, rfl⟩) | (go_at_call 46; refine (l1in_no _ _ _ _ (by omega)).mono ?_; rintro e w' ⟨rfl, rfl⟩) | (go_at_call 51; refine (gcd_spec _ _ _).mono ?_; rintro e w' ⟨rfl, mm, rfl⟩) | go_in)
      go_ret
      exact ⟨⟨_, rfl, HN.out⟩, 0, rfl⟩

end Go.Proofs.Ytdpekaejklmomaa
