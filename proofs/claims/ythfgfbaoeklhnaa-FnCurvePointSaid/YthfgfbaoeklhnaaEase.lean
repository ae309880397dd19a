/- Easing and mixing: what EaseStep, MixNumbers and CurvePoint of the program and of the reference return. No condition: contracts for the walks of the laws. -/
import Derived.Test.YthfgfbaoeklhnaaNum
namespace Go.Proofs.Ythfgfbaoeklhnaa
open Go.ChangeShapes Go.WideShapes Go.ChangeAt Go.RowKit


def ease (a : Int) : Int := if 0 ≤ a ∧ a ≤ 1024 then a * a * (3072 - 2 * a) / 1048576 else -1
theorem ease_in {a : Int} (h1 : 0 ≤ a) (h2 : a ≤ 1024) : a * a * (3072 - 2 * a) / 1048576 = ease a := by unfold ease; rw [if_pos ⟨h1, h2⟩]
theorem ease_out {a : Int} (h : ¬ (0 ≤ a ∧ a ≤ 1024)) : -1 = ease a := by unfold ease; rw [if_neg h]
theorem ease_bds {a : Int} (h1 : 0 ≤ a) (h2 : a ≤ 1024) : 0 ≤ a * a ∧ a * a ≤ 1048576 ∧ 0 ≤ a * a * (3072 - 2 * a) ∧ a * a * (3072 - 2 * a) ≤ 3221225472 := by
  have e1 : 0 ≤ a * a := Int.mul_nonneg h1 h1
  have e2 : a * a ≤ 1024 * 1024 := Int.mul_le_mul h2 h2 h1 (by omega)
  have e3 : 0 ≤ a * a * (3072 - 2 * a) := Int.mul_nonneg e1 (by omega)
  have e4 : a * a * (3072 - 2 * a) ≤ 1048576 * 3072 := Int.mul_le_mul (by omega) (by omega) (by omega) (by omega)
  exact ⟨e1, by omega, e3, by omega⟩
def mixOk (a b s : Int) : Prop := -1000000 ≤ a ∧ a ≤ 1000000 ∧ -1000000 ≤ b ∧ b ≤ 1000000 ∧ 0 ≤ s ∧ s ≤ 1024
instance (a b s : Int) : Decidable (mixOk a b s) := by unfold mixOk; infer_instance
def mix (a b s : Int) : Int := if mixOk a b s then a + rnd ((b - a) * s) 1024 else 0
theorem mix_in {a b s : Int} (h : mixOk a b s) : a + rnd ((b - a) * s) 1024 = mix a b s := by unfold mix; rw [if_pos h]
theorem mix_out {a b s : Int} (h : ¬ mixOk a b s) : 0 = mix a b s := by unfold mix; rw [if_neg h]
theorem mixprod_bd {a b s : Int} (h1 : -1000000 ≤ a) (h2 : a ≤ 1000000) (h3 : -1000000 ≤ b) (h4 : b ≤ 1000000) (h5 : 0 ≤ s) (h6 : s ≤ 1024) : -4096000000 ≤ (b - a) * s ∧ (b - a) * s ≤ 4096000000 := by
  have e1 : 0 ≤ (2000000 - (b - a)) * s := Int.mul_nonneg (by omega) h5
  have e2 : 0 ≤ (2000000 + (b - a)) * s := Int.mul_nonneg (by omega) h5
  rw [Int.sub_mul] at e1
  rw [Int.add_mul] at e2
  omega
theorem rnd_bd {x : Int} (h1 : -4096000000 ≤ x) (h2 : x ≤ 4096000000) : -4000001 ≤ rnd x 1024 ∧ rnd x 1024 ≤ 4000001 := by
  unfold rnd
  split <;> omega
def curve (a b c s : Int) : Int := if mixOk a b s ∧ mixOk b c s then mix (mix a b s) (mix b c s) s else 0
theorem curve_in {a b c s : Int} (h : mixOk a b s ∧ mixOk b c s) : mix (mix a b s) (mix b c s) s = curve a b c s := by unfold curve; rw [if_pos h]
theorem curve_out {a b c s : Int} (h : ¬ (mixOk a b s ∧ mixOk b c s)) : 0 = curve a b c s := by unfold curve; rw [if_neg h]

set_option maxHeartbeats 400000 in
theorem ease_impl (a : Int) (w : World) (h0 : -9223372036854775808 ≤ a) (h9 : a ≤ 9223372036854775807) : Calls Try.prog 21 #[.int .i64 a] w fun e w' => e = .returned (.int .i64 (ease a)) ∧ w = w' := by
  by_cases h : 0 ≤ a ∧ a ≤ 1024
  · obtain ⟨h1, h2⟩ := h
    obtain ⟨b1, b2, b3, b4⟩ := ease_bds h1 h2
    have HE := Lib.hid (ease_in h1 h2)
    have b5 : 0 ≤ a * a * (3072 - 2 * a) / 1048576 := Int.ediv_nonneg b3 (by omega)
    have b6 : a * a * (3072 - 2 * a) / 1048576 ≤ 3221225472 := Int.le_trans (Int.ediv_le_self _ b3) b4
    go_enter Try.func21, Try.ntmps21
    go_wp2_with (first | (go_at_call 43; refine (floordiv_any _ _ _ (by omega) (by omega) (by omega) (by omega)).mono ?_; rintro e w' ⟨rfl, rfl⟩) | go_in)
    go_ret
    exact ⟨ret_int HE.out, rfl⟩
  · have HE := Lib.hid (ease_out h)
    rcases (by omega : a < 0 ∨ (¬ a < 0 ∧ 1024 < a)) with h3 | ⟨h3, h4⟩
    all_goals
      clear h
      go_enter Try.func21, Try.ntmps21
      go_wp2_with (first | (go_at_call 43; refine (floordiv_any _ _ _ (by omega) (by omega) (by omega) (by omega)).mono ?_; rintro e w' ⟨rfl, rfl⟩) | go_in)
      go_ret
      exact ⟨ret_int HE.out, rfl⟩

set_option maxHeartbeats 400000 in
theorem ease_spec (a : Int) (w : World) (h0 : -9223372036854775808 ≤ a) (h9 : a ≤ 9223372036854775807) : Calls Try.prog 20 #[.int .i64 a] w fun e w' => e = .returned (.int .i64 (ease a)) ∧ w = w' := by
  by_cases h : 0 ≤ a ∧ a ≤ 1024
  · obtain ⟨h1, h2⟩ := h
    obtain ⟨b1, b2, b3, b4⟩ := ease_bds h1 h2
    have HE := Lib.hid (ease_in h1 h2)
    have b5 : 0 ≤ a * a * (3072 - 2 * a) / 1048576 := Int.ediv_nonneg b3 (by omega)
    have b6 : a * a * (3072 - 2 * a) / 1048576 ≤ 3221225472 := Int.le_trans (Int.ediv_le_self _ b3) b4
    go_enter Try.func20, Try.ntmps20
    go_wp2_with (first | (go_at_call 41; refine (l1in_yes _ _ _ _ (by omega) (by omega)).mono ?_; rintro e w' ⟨rfl, rfl⟩) | (go_at_call 41; refine (l1in_no _ _ _ _ (by omega)).mono ?_; rintro e w' ⟨rfl, rfl⟩) | go_in)
    go_ret
    exact ⟨ret_int HE.out, rfl⟩
  · have HE := Lib.hid (ease_out h)
    rcases (by omega : a < 0 ∨ (¬ a < 0 ∧ 1024 < a)) with h3 | ⟨h3, h4⟩
    all_goals
      clear h
      go_enter Try.func20, Try.ntmps20
      go_wp2_with (first | (go_at_call 41; refine (l1in_yes _ _ _ _ (by omega) (by omega)).mono ?_; rintro e w' ⟨rfl, rfl⟩) | (go_at_call 41; refine (l1in_no _ _ _ _ (by omega)).mono ?_; rintro e w' ⟨rfl, rfl⟩) | go_in)
      go_ret
      exact ⟨ret_int HE.out, rfl⟩

set_option maxHeartbeats 400000 in
theorem mix_impl (a b s : Int) (w : World) : Calls Try.prog 25 #[.int .i64 a, .int .i64 b, .int .i64 s] w fun e w' => e = .returned (.int .i64 (mix a b s)) ∧ w = w' := by
  by_cases h : mixOk a b s
  · obtain ⟨h1, h2, h3, h4, h5, h6⟩ := h
    have HE := Lib.hid (mix_in ⟨h1, h2, h3, h4, h5, h6⟩)
    obtain ⟨b1, b2⟩ := mixprod_bd h1 h2 h3 h4 h5 h6
    obtain ⟨b3, b4⟩ := rnd_bd (show -4096000000 ≤ (b - a) * s by omega) (show (b - a) * s ≤ 4096000000 by omega)
    go_enter Try.func25, Try.ntmps25
    go_wp2_with (first | (go_at_call 42; refine (within_yes _ _ _ (by omega) (by omega) (by omega) (by omega)).mono ?_; rintro e w' ⟨rfl, rfl⟩) | (go_at_call 42; refine (within_no _ _ _ (by omega) (by omega) (by omega)).mono ?_; rintro e w' ⟨rfl, rfl⟩) | (go_at_call 45; refine (rounddiv_any _ _ _ (by omega) (by omega) (by omega) (by omega)).mono ?_; rintro e w' ⟨rfl, rfl⟩) | go_in)
    go_ret
    exact ⟨ret_int HE.out, rfl⟩
  · have HE := Lib.hid (mix_out h)
    unfold mixOk at h
    rcases (by omega : (a < -1000000 ∨ 1000000 < a) ∨ (-1000000 ≤ a ∧ a ≤ 1000000 ∧ (b < -1000000 ∨ 1000000 < b)) ∨ (-1000000 ≤ a ∧ a ≤ 1000000 ∧ -1000000 ≤ b ∧ b ≤ 1000000 ∧ s < 0) ∨ (-1000000 ≤ a ∧ a ≤ 1000000 ∧ -1000000 ≤ b ∧ b ≤ 1000000 ∧ ¬ s < 0 ∧ 1024 < s)) with h1 | ⟨h1, h2, h3⟩ | ⟨h1, h2, h3, h4, h5⟩ | ⟨h1, h2, h3, h4, h5, h6⟩
    all_goals
      clear h
      go_enter Try.func25, Try.ntmps25
      go_wp2_with (first | (go_at_call 42; refine (within_yes _ _ _ (by omega) (by omega) (by omega) (by omega)).mono ?_; rintro e w' ⟨rfl, rfl⟩) | (go_at_call 42; refine (within_no _ _ _ (by omega) (by omega) (by omega)).mono ?_; rintro e w' ⟨rfl, rfl⟩) | (go_at_call 45; refine (rounddiv_any _ _ _ (by omega) (by omega) (by omega) (by omega)).mono ?_; rintro e w' ⟨rfl, rfl⟩) | go_in)
      go_ret
      exact ⟨ret_int HE.out, rfl⟩

set_option maxHeartbeats 400000 in
theorem mix_spec (a b s : Int) (w : World) : Calls Try.prog 24 #[.int .i64 a, .int .i64 b, .int .i64 s] w fun e w' => e = .returned (.int .i64 (mix a b s)) ∧ w = w' := by
  by_cases h : mixOk a b s
  · obtain ⟨h1, h2, h3, h4, h5, h6⟩ := h
    have HE := Lib.hid (mix_in ⟨h1, h2, h3, h4, h5, h6⟩)
    obtain ⟨b1, b2⟩ := mixprod_bd h1 h2 h3 h4 h5 h6
    obtain ⟨b3, b4⟩ := rnd_bd (show -4096000000 ≤ (b - a) * s by omega) (show (b - a) * s ≤ 4096000000 by omega)
    go_enter Try.func24, Try.ntmps24
    go_wp2_with (first | (go_at_call 41; refine (l1in_yes _ _ _ _ (by omega) (by omega)).mono ?_; rintro e w' ⟨rfl, rfl⟩) | (go_at_call 41; refine (l1in_no _ _ _ _ (by omega)).mono ?_; rintro e w' ⟨rfl, rfl⟩) | (go_at_call 44; refine (l1round_any _ _ _ (by omega) (by omega) (by omega) (by omega)).mono ?_; rintro e w' ⟨rfl, rfl⟩) | go_in)
    go_ret
    exact ⟨ret_int HE.out, rfl⟩
  · have HE := Lib.hid (mix_out h)
    unfold mixOk at h
    rcases (by omega : (a < -1000000 ∨ 1000000 < a) ∨ (-1000000 ≤ a ∧ a ≤ 1000000 ∧ (b < -1000000 ∨ 1000000 < b)) ∨ (-1000000 ≤ a ∧ a ≤ 1000000 ∧ -1000000 ≤ b ∧ b ≤ 1000000 ∧ s < 0) ∨ (-1000000 ≤ a ∧ a ≤ 1000000 ∧ -1000000 ≤ b ∧ b ≤ 1000000 ∧ ¬ s < 0 ∧ 1024 < s)) with h1 | ⟨h1, h2, h3⟩ | ⟨h1, h2, h3, h4, h5⟩ | ⟨h1, h2, h3, h4, h5, h6⟩
    all_goals
      clear h
      go_enter Try.func24, Try.ntmps24
      go_wp2_with (first | (go_at_call 41; refine (l1in_yes _ _ _ _ (by omega) (by omega)).mono ?_; rintro e w' ⟨rfl, rfl⟩) | (go_at_call 41; refine (l1in_no _ _ _ _ (by omega)).mono ?_; rintro e w' ⟨rfl, rfl⟩) | (go_at_call 44; refine (l1round_any _ _ _ (by omega) (by omega) (by omega) (by omega)).mono ?_; rintro e w' ⟨rfl, rfl⟩) | go_in)
      go_ret
      exact ⟨ret_int HE.out, rfl⟩

set_option maxHeartbeats 400000 in
theorem curve_impl (a b c s : Int) (w : World) : Calls Try.prog 30 #[.int .i64 a, .int .i64 b, .int .i64 c, .int .i64 s] w fun e w' => e = .returned (.int .i64 (curve a b c s)) ∧ w = w' := by
  by_cases h : mixOk a b s ∧ mixOk b c s
  · have HE := Lib.hid (curve_in h)
    obtain ⟨⟨h1, h2, h3, h4, h5, h6⟩, -, -, h7, h8, -, -⟩ := h
    go_enter Try.func30, Try.ntmps30
    go_wp2_with (first | (go_at_call 42; refine (within_yes _ _ _ (by omega) (by omega) (by omega) (by omega)).mono ?_; rintro e w' ⟨rfl, rfl⟩) | (go_at_call 42; refine (within_no _ _ _ (by omega) (by omega) (by omega)).mono ?_; rintro e w' ⟨rfl, rfl⟩) | (go_at_call 25; refine (mix_impl _ _ _ _).mono ?_; rintro e w' ⟨rfl, rfl⟩) | go_in)
    go_ret
    exact ⟨ret_int HE.out, rfl⟩
  · have HE := Lib.hid (curve_out h)
    unfold mixOk at h
    rcases (by omega : (a < -1000000 ∨ 1000000 < a) ∨ (-1000000 ≤ a ∧ a ≤ 1000000 ∧ (b < -1000000 ∨ 1000000 < b)) ∨ (-1000000 ≤ a ∧ a ≤ 1000000 ∧ -1000000 ≤ b ∧ b ≤ 1000000 ∧ (c < -1000000 ∨ 1000000 < c)) ∨ (-1000000 ≤ a ∧ a ≤ 1000000 ∧ -1000000 ≤ b ∧ b ≤ 1000000 ∧ -1000000 ≤ c ∧ c ≤ 1000000 ∧ s < 0) ∨ (-1000000 ≤ a ∧ a ≤ 1000000 ∧ -1000000 ≤ b ∧ b ≤ 1000000 ∧ -1000000 ≤ c ∧ c ≤ 1000000 ∧ ¬ s < 0 ∧ 1024 < s)) with h1 | ⟨h1, h2, h3⟩ | ⟨h1, h2, h3, h4, h5⟩ | ⟨h1, h2, h3, h4, h7, h8, h5⟩ | ⟨h1, h2, h3, h4, h7, h8, h5, h6⟩
    all_goals
      clear h
      go_enter Try.func30, Try.ntmps30
      go_wp2_with (first | (go_at_call 42; refine (within_yes _ _ _ (by omega) (by omega) (by omega) (by omega)).mono ?_; rintro e w' ⟨rfl, rfl⟩) | (go_at_call 42; refine (within_no _ _ _ (by omega) (by omega) (by omega)).mono ?_; rintro e w' ⟨rfl, rfl⟩) | (go_at_call 25; refine (mix_impl _ _ _ _).mono ?_; rintro e w' ⟨rfl, rfl⟩) | go_in)
      go_ret
      exact ⟨ret_int HE.out, rfl⟩

set_option maxHeartbeats 400000 in
theorem curve_spec (a b c s : Int) (w : World) : Calls Try.prog 29 #[.int .i64 a, .int .i64 b, .int .i64 c, .int .i64 s] w fun e w' => e = .returned (.int .i64 (curve a b c s)) ∧ w = w' := by
  by_cases h : mixOk a b s ∧ mixOk b c s
  · have HE := Lib.hid (curve_in h)
    obtain ⟨⟨h1, h2, h3, h4, h5, h6⟩, -, -, h7, h8, -, -⟩ := h
    go_enter Try.func29, Try.ntmps29
    go_wp2_with (first | (go_at_call 41; refine (l1in_yes _ _ _ _ (by omega) (by omega)).mono ?_; rintro e w' ⟨rfl, rfl⟩) | (go_at_call 41; refine (l1in_no _ _ _ _ (by omega)).mono ?_; rintro e w' ⟨rfl, rfl⟩) | (go_at_call 24; refine (mix_spec _ _ _ _).mono ?_; rintro e w' ⟨rfl, rfl⟩) | go_in)
    go_ret
    exact ⟨ret_int HE.out, rfl⟩
  · have HE := Lib.hid (curve_out h)
    unfold mixOk at h
    rcases (by omega : (a < -1000000 ∨ 1000000 < a) ∨ (-1000000 ≤ a ∧ a ≤ 1000000 ∧ (b < -1000000 ∨ 1000000 < b)) ∨ (-1000000 ≤ a ∧ a ≤ 1000000 ∧ -1000000 ≤ b ∧ b ≤ 1000000 ∧ (c < -1000000 ∨ 1000000 < c)) ∨ (-1000000 ≤ a ∧ a ≤ 1000000 ∧ -1000000 ≤ b ∧ b ≤ 1000000 ∧ -1000000 ≤ c ∧ c ≤ 1000000 ∧ s < 0) ∨ (-1000000 ≤ a ∧ a ≤ 1000000 ∧ -1000000 ≤ b ∧ b ≤ 1000000 ∧ -1000000 ≤ c ∧ c ≤ 1000000 ∧ ¬ s < 0 ∧ 1024 < s)) with h1 | ⟨h1, h2, h3⟩ | ⟨h1, h2, h3, h4, h5⟩ | ⟨h1, h2, h3, h4, h7, h8, h5⟩ | ⟨h1, h2, h3, h4, h7, h8, h5, h6⟩
    all_goals
      clear h
      go_enter Try.func29, Try.ntmps29
      go_wp2_with (first | (go_at_call 41; refine (l1in_yes _ _ _ _ (by omega) (by omega)).mono ?_; rintro e w' ⟨rfl, rfl⟩) | (go_at_call 41; refine (l1in_no _ _ _ _ (by omega)).mono ?_; rintro e w' ⟨rfl, rfl⟩) | (go_at_call 24; refine (mix_spec _ _ _ _).mono ?_; rintro e w' ⟨rfl, rfl⟩) | go_in)
      go_ret
      exact ⟨ret_int HE.out, rfl⟩

end Go.Proofs.Ythfgfbaoeklhnaa
