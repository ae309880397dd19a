/- RoundRight. No condition: contracts for the walks of the laws. -/
import Derived.Test.YtpecffijmamddaaNum
import Derived.Test.YtpecffijmamddaaShelf
namespace Go.Proofs.Ytpecffijmamddaa
open Go.ChangeShapes Go.WideShapes Go.ChangeAt Go.RowKit


theorem mul64_int (x y : Int) (w : World) (h0 : 0 ≤ x) (h1 : x < 18446744073709551616) (h2 : 0 ≤ y) (h3 : y < 18446744073709551616) : Calls Try.prog 35 #[.int .u64 x, .int .u64 y] w fun e w' => e = .returned (.tuple #[.int .u64 (x * y / 18446744073709551616), .int .u64 (x * y % 18446744073709551616)]) ∧ w = w' := by
  obtain ⟨n, rfl⟩ := Int.eq_ofNat_of_zero_le h0
  obtain ⟨m, rfl⟩ := Int.eq_ofNat_of_zero_le h2
  refine (Try.bits_Mul64 n m (by omega) (by omega) w).mono ?_
  rintro e w' ⟨rfl, rfl⟩
  exact ⟨rfl, rfl⟩
def rrOk (a b q : Int) : Prop := -1099511627776 ≤ a ∧ a ≤ 1099511627776 ∧ 1 ≤ b ∧ b ≤ 1099511627776 ∧ -1099511627776 ≤ q ∧ q ≤ 1099511627776
instance (a b q : Int) : Decidable (rrOk a b q) := by unfold rrOk; infer_instance
def rrB (a b q : Int) : Bool := decide (rrOk a b q ∧ (-b < 2 * (a - q * b) ∧ 2 * (a - q * b) < b ∨ (2 * (a - q * b) = b ∨ 2 * (a - q * b) = -b) ∧ q % 2 = 0))
theorem rr_out {a b q : Int} (h : ¬ rrOk a b q) : false = rrB a b q := by
  unfold rrB; symm; rw [decide_eq_false_iff_not]; exact fun h' => h h'.1
theorem rr_far {a b q : Int} (h : rrOk a b q) (hf : 2199023255552 < q * b ∨ q * b < -2199023255552) : false = rrB a b q := by
  unfold rrB; symm; rw [decide_eq_false_iff_not]; unfold rrOk at h; rintro ⟨-, h'⟩; omega
theorem rr_in {a b q : Int} (h : rrOk a b q) : rrB a b q = decide (-b < 2 * (a - q * b) ∧ 2 * (a - q * b) < b ∨ (2 * (a - q * b) = b ∨ 2 * (a - q * b) = -b) ∧ q % 2 = 0) := by
  unfold rrB; rw [decide_eq_decide]; exact ⟨fun h' => h'.2, fun h' => ⟨h, h'⟩⟩
set_option maxHeartbeats 4000000 in
theorem rr_impl (a b q : Int) (w : World) : Calls Try.prog 12 #[.int .i64 a, .int .i64 b, .int .i64 q] w fun E w' => E = .returned (.bool (rrB a b q)) ∧ w = w' := by
  by_cases h : rrOk a b q
  · obtain ⟨v, hv⟩ : ∃ v, rrB a b q = v := ⟨_, rfl⟩
    have hv' := hv
    rw [rr_in h] at hv'
    have HV := Lib.hid hv'
    have HF := Lib.hid (fun hf => rr_far h hf)
    have hv2 := Lib.hid hv
    obtain ⟨h1, h2, h3, h4, h5, h6⟩ := h
    have hand : bits .and .i64 q 1 = q % 2 := bits_and_one
    rw [hv]
    clear hv hv'
    have key : ∀ N : Int, (0 ≤ q → N = q * b) → (q < 0 → N = -q * b) → 0 ≤ N ∧ N ≤ 1208925819614629174706176 ∧ (0 ≤ q → q * b = N) ∧ (q < 0 → q * b = -N) := by
      intro N e1 e2
      rcases Int.lt_or_le q 0 with hq | hq
      · have e := e2 hq
        have p1 : 0 ≤ -q * b := Int.mul_nonneg (by omega) (by omega)
        have p2 := Int.mul_le_mul (show -q ≤ 1099511627776 by omega) h4 (by omega) (by omega)
        have p3 : -q * b = -(q * b) := Int.neg_mul ..
        omega
      · have e := e1 hq
        have p1 : 0 ≤ q * b := Int.mul_nonneg (by omega) (by omega)
        have p2 := Int.mul_le_mul h6 h4 (by omega) (by omega)
        omega
    rcases Int.lt_or_le q 0 with hq | hq
    · have hmx : max q (-q) = -q := by omega
      obtain ⟨n0, n1, -, hn⟩ := key (-q * b) (by omega) (fun _ => rfl)
      have HN := Lib.hid (hn hq)
      clear key hn
      rcases (by omega : 18446744073709551616 ≤ -q * b ∨ (2199023255552 < -q * b ∧ -q * b < 18446744073709551616) ∨ -q * b ≤ 2199023255552) with hc | ⟨hc, hc'⟩ | hc
      · have hF := HF.out (by have := HN.out; omega)
        rw [hv2.out] at hF
        subst hF
        have d1 : 0 < -q * b / 18446744073709551616 := by omega
        go_enter Try.func12, Try.ntmps12
        go_wp2_with (first | (go_at_call 34; refine (within_yes _ _ _ (by omega) (by omega) (by omega) (by omega)).mono ?_; rintro e w' ⟨rfl, rfl⟩) | (go_at_call 34; refine (within_no _ _ _ (by omega) (by omega) (by omega)).mono ?_; rintro e w' ⟨rfl, rfl⟩) | (go_at_call 35; refine (mul64_int _ _ _ (by omega) (by omega) (by omega) (by omega)).mono ?_; rintro e w' ⟨rfl, rfl⟩))
        all_goals (go_ret; exact ⟨rfl, rfl⟩)
      · have hF := HF.out (by have := HN.out; omega)
        rw [hv2.out] at hF
        subst hF
        have d1 : -q * b / 18446744073709551616 = 0 := by omega
        have d2 : -q * b % 18446744073709551616 = -q * b := by omega
        go_enter Try.func12, Try.ntmps12
        go_wp2_with (first | (go_at_call 34; refine (within_yes _ _ _ (by omega) (by omega) (by omega) (by omega)).mono ?_; rintro e w' ⟨rfl, rfl⟩) | (go_at_call 34; refine (within_no _ _ _ (by omega) (by omega) (by omega)).mono ?_; rintro e w' ⟨rfl, rfl⟩) | (go_at_call 35; refine (mul64_int _ _ _ (by omega) (by omega) (by omega) (by omega)).mono ?_; rintro e w' ⟨rfl, rfl⟩))
        all_goals (go_ret; exact ⟨rfl, rfl⟩)
      · have d1 : -q * b / 18446744073709551616 = 0 := by omega
        have d2 : -q * b % 18446744073709551616 = -q * b := by omega
        rcases Int.le_total 0 (a + -q * b) with hda | hda
        · have hmx2 : max (a + -q * b) (-(-q * b) - a) = a + -q * b := by omega
          go_enter Try.func12, Try.ntmps12
          go_wp2_with (first | (go_at_call 34; refine (within_yes _ _ _ (by omega) (by omega) (by omega) (by omega)).mono ?_; rintro e w' ⟨rfl, rfl⟩) | (go_at_call 34; refine (within_no _ _ _ (by omega) (by omega) (by omega)).mono ?_; rintro e w' ⟨rfl, rfl⟩) | (go_at_call 35; refine (mul64_int _ _ _ (by omega) (by omega) (by omega) (by omega)).mono ?_; rintro e w' ⟨rfl, rfl⟩))
          all_goals (go_ret; have hv := HV.out; have hn := HN.out; rw [hn] at hv; generalize max (a + -q * b) (-(-q * b) - a) = z at *; exact ⟨ret_bool (by rw [← hv]; clear hv; first | rfl | (symm; simp; omega) | (simp; omega) | (rw [Bool.eq_iff_iff]; simp only [decide_eq_true_eq, beq_iff_eq]; omega) | (symm; rw [Bool.eq_iff_iff]; simp; omega)), rfl⟩)
        · have hmx2 : max (a + -q * b) (-(-q * b) - a) = -(-q * b) - a := by omega
          go_enter Try.func12, Try.ntmps12
          go_wp2_with (first | (go_at_call 34; refine (within_yes _ _ _ (by omega) (by omega) (by omega) (by omega)).mono ?_; rintro e w' ⟨rfl, rfl⟩) | (go_at_call 34; refine (within_no _ _ _ (by omega) (by omega) (by omega)).mono ?_; rintro e w' ⟨rfl, rfl⟩) | (go_at_call 35; refine (mul64_int _ _ _ (by omega) (by omega) (by omega) (by omega)).mono ?_; rintro e w' ⟨rfl, rfl⟩))
          all_goals (go_ret; have hv := HV.out; have hn := HN.out; rw [hn] at hv; generalize max (a + -q * b) (-(-q * b) - a) = z at *; exact ⟨ret_bool (by rw [← hv]; clear hv; first | rfl | (symm; simp; omega) | (simp; omega) | (rw [Bool.eq_iff_iff]; simp only [decide_eq_true_eq, beq_iff_eq]; omega) | (symm; rw [Bool.eq_iff_iff]; simp; omega)), rfl⟩)
    · have hmx : max q (-q) = q := by omega
      obtain ⟨n0, n1, hn, -⟩ := key (q * b) (fun _ => rfl) (by omega)
      clear key hn
      rcases (by omega : 18446744073709551616 ≤ q * b ∨ (2199023255552 < q * b ∧ q * b < 18446744073709551616) ∨ q * b ≤ 2199023255552) with hc | ⟨hc, hc'⟩ | hc
      · have hF := HF.out (by omega)
        rw [hv2.out] at hF
        subst hF
        have d1 : 0 < q * b / 18446744073709551616 := by omega
        go_enter Try.func12, Try.ntmps12
        go_wp2_with (first | (go_at_call 34; refine (within_yes _ _ _ (by omega) (by omega) (by omega) (by omega)).mono ?_; rintro e w' ⟨rfl, rfl⟩) | (go_at_call 34; refine (within_no _ _ _ (by omega) (by omega) (by omega)).mono ?_; rintro e w' ⟨rfl, rfl⟩) | (go_at_call 35; refine (mul64_int _ _ _ (by omega) (by omega) (by omega) (by omega)).mono ?_; rintro e w' ⟨rfl, rfl⟩))
        all_goals (go_ret; exact ⟨rfl, rfl⟩)
      · have hF := HF.out (by omega)
        rw [hv2.out] at hF
        subst hF
        have d1 : q * b / 18446744073709551616 = 0 := by omega
        have d2 : q * b % 18446744073709551616 = q * b := by omega
        go_enter Try.func12, Try.ntmps12
        go_wp2_with (first | (go_at_call 34; refine (within_yes _ _ _ (by omega) (by omega) (by omega) (by omega)).mono ?_; rintro e w' ⟨rfl, rfl⟩) | (go_at_call 34; refine (within_no _ _ _ (by omega) (by omega) (by omega)).mono ?_; rintro e w' ⟨rfl, rfl⟩) | (go_at_call 35; refine (mul64_int _ _ _ (by omega) (by omega) (by omega) (by omega)).mono ?_; rintro e w' ⟨rfl, rfl⟩))
        all_goals (go_ret; exact ⟨rfl, rfl⟩)
      · have d1 : q * b / 18446744073709551616 = 0 := by omega
        have d2 : q * b % 18446744073709551616 = q * b := by omega
        rcases Int.le_total 0 (a - q * b) with hda | hda
        · have hmx2 : max (a - q * b) (q * b - a) = a - q * b := by omega
          go_enter Try.func12, Try.ntmps12
          go_wp2_with (first | (go_at_call 34; refine (within_yes _ _ _ (by omega) (by omega) (by omega) (by omega)).mono ?_; rintro e w' ⟨rfl, rfl⟩) | (go_at_call 34; refine (within_no _ _ _ (by omega) (by omega) (by omega)).mono ?_; rintro e w' ⟨rfl, rfl⟩) | (go_at_call 35; refine (mul64_int _ _ _ (by omega) (by omega) (by omega) (by omega)).mono ?_; rintro e w' ⟨rfl, rfl⟩))
          all_goals (go_ret; have hv := HV.out; generalize max (a - q * b) (q * b - a) = z at *; exact ⟨ret_bool (by rw [← hv]; clear hv; first | rfl | (symm; simp; omega) | (simp; omega) | (rw [Bool.eq_iff_iff]; simp only [decide_eq_true_eq, beq_iff_eq]; omega) | (symm; rw [Bool.eq_iff_iff]; simp; omega)), rfl⟩)
        · have hmx2 : max (a - q * b) (q * b - a) = q * b - a := by omega
          go_enter Try.func12, Try.ntmps12
          go_wp2_with (first | (go_at_call 34; refine (within_yes _ _ _ (by omega) (by omega) (by omega) (by omega)).mono ?_; rintro e w' ⟨rfl, rfl⟩) | (go_at_call 34; refine (within_no _ _ _ (by omega) (by omega) (by omega)).mono ?_; rintro e w' ⟨rfl, rfl⟩) | (go_at_call 35; refine (mul64_int _ _ _ (by omega) (by omega) (by omega) (by omega)).mono ?_; rintro e w' ⟨rfl, rfl⟩))
          all_goals (go_ret; have hv := HV.out; generalize max (a - q * b) (q * b - a) = z at *; exact ⟨ret_bool (by rw [← hv]; clear hv; first | rfl | (symm; simp; omega) | (simp; omega) | (rw [Bool.eq_iff_iff]; simp only [decide_eq_true_eq, beq_iff_eq]; omega) | (symm; rw [Bool.eq_iff_iff]; simp; omega)), rfl⟩)
  · have HE := Lib.hid (rr_out h)
    unfold rrOk at h
    rcases (by omega : (a < -1099511627776 ∨ 1099511627776 < a) ∨ (-1099511627776 ≤ a ∧ a ≤ 1099511627776 ∧ b < 1) ∨ (-1099511627776 ≤ a ∧ a ≤ 1099511627776 ∧ 1 ≤ b ∧ 1099511627776 < b) ∨ (-1099511627776 ≤ a ∧ a ≤ 1099511627776 ∧ 1 ≤ b ∧ b ≤ 1099511627776 ∧ (q < -1099511627776 ∨ 1099511627776 < q))) with h1 | ⟨h1, h2, h3⟩ | ⟨h1, h2, h3, h4⟩ | ⟨h1, h2, h3, h4, h5⟩
    all_goals
      clear h
      go_enter Try.func12, Try.ntmps12
      go_wp2_with (first | (go_at_call 34; refine (within_yes _ _ _ (by omega) (by omega) (by omega) (by omega)).mono ?_; rintro e w' ⟨rfl, rfl⟩) | (go_at_call 34; refine (within_no _ _ _ (by omega) (by omega) (by omega)).mono ?_; rintro e w' ⟨rfl, rfl⟩) | go_in)
      go_ret
      exact ⟨ret_bool HE.out, rfl⟩
set_option maxHeartbeats 4000000 in
theorem rr_spec (a b q : Int) (w : World) : Calls Try.prog 11 #[.int .i64 a, .int .i64 b, .int .i64 q] w fun E w' => E = .returned (.bool (rrB a b q)) ∧ w = w' := by
  by_cases h : rrOk a b q
  · have HF := Lib.hid (fun hf => rr_far h hf)
    have HV := Lib.hid (rr_in h)
    obtain ⟨h1, h2, h3, h4, h5, h6⟩ := h
    obtain ⟨d1, d2⟩ := ediv_bd (a := 2199023255552) (show 0 < b by omega)
    have d3 : 0 ≤ 2199023255552 / b := Int.ediv_nonneg (by omega) (by omega)
    have d4 : 2199023255552 / b ≤ 2199023255552 := Int.ediv_le_self _ (by omega)
    rcases (by omega : 2199023255552 / b + 1 < q ∨ 2199023255552 / b + 1 < -q ∨ (q ≤ 2199023255552 / b + 1 ∧ -q ≤ 2199023255552 / b + 1)) with hq | hq | ⟨hq, hq'⟩
    · have p := Int.mul_le_mul_of_nonneg_right (show 2199023255552 / b + 2 ≤ q by omega) (show 0 ≤ b by omega)
      rw [Int.add_mul] at p
      have HE := Lib.hid (HF.out (by omega))
      clear p d1 d2
      go_enter Try.func11, Try.ntmps11
      go_wp2_with (first | (go_at_call 33; refine (l1in_yes _ _ _ _ (by omega) (by omega)).mono ?_; rintro e w' ⟨rfl, rfl⟩) | (go_at_call 33; refine (l1in_no _ _ _ _ (by omega)).mono ?_; rintro e w' ⟨rfl, rfl⟩) | go_in)
      all_goals (go_ret; exact ⟨ret_bool HE.out, rfl⟩)
    · have p := Int.mul_le_mul_of_nonneg_right (show 2199023255552 / b + 2 ≤ -q by omega) (show 0 ≤ b by omega)
      rw [Int.add_mul, Int.neg_mul] at p
      have HE := Lib.hid (HF.out (by omega))
      clear p d1 d2
      go_enter Try.func11, Try.ntmps11
      go_wp2_with (first | (go_at_call 33; refine (l1in_yes _ _ _ _ (by omega) (by omega)).mono ?_; rintro e w' ⟨rfl, rfl⟩) | (go_at_call 33; refine (l1in_no _ _ _ _ (by omega)).mono ?_; rintro e w' ⟨rfl, rfl⟩) | go_in)
      all_goals (go_ret; exact ⟨ret_bool HE.out, rfl⟩)
    · have p1 := Int.mul_le_mul_of_nonneg_right hq (show 0 ≤ b by omega)
      have p2 := Int.mul_le_mul_of_nonneg_right hq' (show 0 ≤ b by omega)
      rw [Int.add_mul] at p1 p2
      rw [Int.neg_mul] at p2
      have b1 : -2199023255552 - 1099511627776 ≤ q * b := by omega
      have b2 : q * b ≤ 2199023255552 + 1099511627776 := by omega
      clear p1 p2 d1 d2
      have T0 := Lib.hid (tmod2 q)
      rcases Int.le_total 0 (a - q * b) with hda | hda
      · have hmx2 : max (a - q * b) (q * b - a) = a - q * b := by omega
        by_cases k3 : q.tmod 2 = 0
        all_goals
          go_enter Try.func11, Try.ntmps11
          go_wp2_with (first | (go_at_call 33; refine (l1in_yes _ _ _ _ (by omega) (by omega)).mono ?_; rintro e w' ⟨rfl, rfl⟩) | (go_at_call 33; refine (l1in_no _ _ _ _ (by omega)).mono ?_; rintro e w' ⟨rfl, rfl⟩) | go_in)
          all_goals (go_ret; have k4 := T0.out; generalize max (a - q * b) (q * b - a) = z at *; exact ⟨ret_bool (by rw [HV.out]; first | rfl | (symm; simp; omega) | (simp; omega) | (rw [Bool.eq_iff_iff]; simp only [decide_eq_true_eq, beq_iff_eq]; omega) | (symm; rw [Bool.eq_iff_iff]; simp; omega)), rfl⟩)
      · have hmx2 : max (a - q * b) (q * b - a) = q * b - a := by omega
        by_cases k3 : q.tmod 2 = 0
        all_goals
          go_enter Try.func11, Try.ntmps11
          go_wp2_with (first | (go_at_call 33; refine (l1in_yes _ _ _ _ (by omega) (by omega)).mono ?_; rintro e w' ⟨rfl, rfl⟩) | (go_at_call 33; refine (l1in_no _ _ _ _ (by omega)).mono ?_; rintro e w' ⟨rfl, rfl⟩) | go_in)
          all_goals (go_ret; have k4 := T0.out; generalize max (a - q * b) (q * b - a) = z at *; exact ⟨ret_bool (by rw [HV.out]; first | rfl | (symm; simp; omega) | (simp; omega) | (rw [Bool.eq_iff_iff]; simp only [decide_eq_true_eq, beq_iff_eq]; omega) | (symm; rw [Bool.eq_iff_iff]; simp; omega)), rfl⟩)
  · have HE := Lib.hid (rr_out h)
    unfold rrOk at h
    rcases (by omega : (a < -1099511627776 ∨ 1099511627776 < a) ∨ (-1099511627776 ≤ a ∧ a ≤ 1099511627776 ∧ (b < 1 ∨ 1099511627776 < b)) ∨ (-1099511627776 ≤ a ∧ a ≤ 1099511627776 ∧ 1 ≤ b ∧ b ≤ 1099511627776 ∧ (q < -1099511627776 ∨ 1099511627776 < q))) with h1 | ⟨h1, h2, h3⟩ | ⟨h1, h2, h3, h4, h5⟩
    all_goals
      clear h
      go_enter Try.func11, Try.ntmps11
      go_wp2_with (first | (go_at_call 33; refine (l1in_yes _ _ _ _ (by omega) (by omega)).mono ?_; rintro e w' ⟨rfl, rfl⟩) | (go_at_call 33; refine (l1in_no _ _ _ _ (by omega)).mono ?_; rintro e w' ⟨rfl, rfl⟩) | go_in)
      go_ret
      exact ⟨ret_bool HE.out, rfl⟩

end Go.Proofs.Ytpecffijmamddaa
