/- SqrtRight. No condition: contracts for the walks of the laws. -/
import Derived.Test.YtpecffijmamddaaSqrt
namespace Go.Proofs.Ytpecffijmamddaa
open Go.ChangeShapes Go.WideShapes Go.ChangeAt Go.RowKit


def sqR (n r : Int) : Bool := decide (0 ≤ n ∧ n ≤ 1152921504606846976 ∧ 0 ≤ r ∧ r ≤ 1073741824 ∧ r * r ≤ n ∧ n < (r + 1) * (r + 1))
theorem sqR_in {n r : Int} (h1 : 0 ≤ n) (h2 : n ≤ 1152921504606846976) (h3 : 0 ≤ r) (h4 : r ≤ 1073741824) : decide (r * r ≤ n ∧ n < (r + 1) * (r + 1)) = sqR n r := by
  unfold sqR
  rw [decide_eq_decide]
  exact ⟨fun h => ⟨h1, h2, h3, h4, h.1, h.2⟩, fun h => ⟨h.2.2.2.2.1, h.2.2.2.2.2⟩⟩
theorem sqR_out {n r : Int} (h : ¬ (0 ≤ n ∧ n ≤ 1152921504606846976 ∧ 0 ≤ r ∧ r ≤ 1073741824)) : false = sqR n r := by
  unfold sqR
  symm
  rw [decide_eq_false_iff_not]
  intro h'
  exact h ⟨h'.1, h'.2.1, h'.2.2.1, h'.2.2.2.1⟩
theorem sqR_is {n r s : Int} (h : SqIs n s) : sqR n r = true ↔ (0 ≤ n ∧ n ≤ 1152921504606846976 ∧ s = r) := by
  unfold sqR
  rw [decide_eq_true_iff]
  constructor
  · intro ⟨h1, h2, h3, h4, h5, h6⟩
    exact ⟨h1, h2, SqIs.only h (.inl ⟨h1, h2, h3, h5, h6⟩)⟩
  · rintro ⟨h1, h2, rfl⟩
    have b := h.bd
    rcases h with ⟨-, -, h3, h4, h5⟩ | ⟨hn, -⟩
    · exact ⟨h1, h2, h3, by omega, h4, h5⟩
    · exact absurd ⟨h1, h2⟩ hn

set_option maxHeartbeats 1000000 in
theorem sqr_impl (n r : Int) (w : World) (n0 : -2305843009213693952 ≤ n) (n1 : n ≤ 2305843009213693952) (r0 : -10 ≤ r) (r1 : r ≤ 1073741830) : Calls Try.prog 24 #[.int .i64 n, .int .i64 r] w fun E w' => E = .returned (.bool (sqR n r)) ∧ w = w' := by
  rcases (by omega : n < 0 ∨ (0 ≤ n ∧ 1152921504606846976 < n) ∨ (0 ≤ n ∧ n ≤ 1152921504606846976 ∧ r < 0) ∨ (0 ≤ n ∧ n ≤ 1152921504606846976 ∧ 0 ≤ r ∧ 1073741824 < r) ∨ (0 ≤ n ∧ n ≤ 1152921504606846976 ∧ 0 ≤ r ∧ r ≤ 1073741824)) with h1 | ⟨h1, h2⟩ | ⟨h1, h2, h3⟩ | ⟨h1, h2, h3, h4⟩ | ⟨h1, h2, h3, h4⟩
  case inr.inr.inr.inr =>
    have HE := Lib.hid (sqR_in h1 h2 h3 h4)
    have p0 : 0 ≤ r * r := Int.mul_nonneg h3 h3
    have p1 : 0 ≤ (r + 1) * (r + 1) := Int.mul_nonneg (by omega) (by omega)
    have p2 : (r + 1) * (r + 1) ≤ 1073741825 * 1073741825 := sq_mono (by omega) (by omega)
    have p3 : r * r ≤ 1073741825 * 1073741825 := sq_mono (by omega) (by omega)
    go_enter Try.func24, Try.ntmps24
    go_wp2
    all_goals (go_ret; exact ⟨ret_bool (by rw [← HE.out]; first | rfl | (simp; done) | (simp; omega)), rfl⟩)
  all_goals
    have HE := Lib.hid (sqR_out (n := n) (r := r) (by omega))
    go_enter Try.func24, Try.ntmps24
    go_wp2
    all_goals (go_ret; exact ⟨ret_bool HE.out, rfl⟩)

set_option maxHeartbeats 1000000 in
theorem sqr_spec (n r : Int) (w : World) (n0 : -2305843009213693952 ≤ n) (n1 : n ≤ 2305843009213693952) (r0 : -10 ≤ r) (r1 : r ≤ 1073741830) : Calls Try.prog 26 #[.int .i64 n, .int .i64 r] w fun E w' => E = .returned (.bool (sqR n r)) ∧ w = w' := by
  rcases (by omega : n < 0 ∨ (0 ≤ n ∧ 1152921504606846976 < n) ∨ (0 ≤ n ∧ n ≤ 1152921504606846976 ∧ r < 0) ∨ (0 ≤ n ∧ n ≤ 1152921504606846976 ∧ 0 ≤ r ∧ 1073741824 < r) ∨ (0 ≤ n ∧ n ≤ 1152921504606846976 ∧ 0 ≤ r ∧ r ≤ 1073741824)) with h1 | ⟨h1, h2⟩ | ⟨h1, h2, h3⟩ | ⟨h1, h2, h3, h4⟩ | ⟨h1, h2, h3, h4⟩
  case inr.inr.inr.inr =>
    have HE := Lib.hid (sqR_in h1 h2 h3 h4)
    have p0 : 0 ≤ r * r := Int.mul_nonneg h3 h3
    have p1 : 0 ≤ (r + 1) * (r + 1) := Int.mul_nonneg (by omega) (by omega)
    have p2 : (r + 1) * (r + 1) ≤ 1073741825 * 1073741825 := sq_mono (by omega) (by omega)
    have p3 : r * r ≤ 1073741825 * 1073741825 := sq_mono (by omega) (by omega)
    go_enter Try.func26, Try.ntmps26
    go_wp2_with (first | (go_at_call 33; refine (l1in_yes _ _ _ _ (by omega) (by omega)).mono ?_; rintro e w' ⟨rfl, rfl⟩) | (go_at_call 33; refine (l1in_no _ _ _ _ (by omega)).mono ?_; rintro e w' ⟨rfl, rfl⟩) | go_in)
    all_goals (go_ret; exact ⟨ret_bool (by rw [← HE.out]; first | rfl | (simp; done) | (simp; omega)), rfl⟩)
  all_goals
    have HE := Lib.hid (sqR_out (n := n) (r := r) (by omega))
    go_enter Try.func26, Try.ntmps26
    go_wp2_with (first | (go_at_call 33; refine (l1in_yes _ _ _ _ (by omega) (by omega)).mono ?_; rintro e w' ⟨rfl, rfl⟩) | (go_at_call 33; refine (l1in_no _ _ _ _ (by omega)).mono ?_; rintro e w' ⟨rfl, rfl⟩) | go_in)
    all_goals (go_ret; exact ⟨ret_bool HE.out, rfl⟩)

end Go.Proofs.Ytpecffijmamddaa
