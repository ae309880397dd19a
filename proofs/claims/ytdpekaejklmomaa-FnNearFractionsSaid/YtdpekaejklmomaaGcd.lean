/- GcdOf and the fractions. No condition: contracts for the walks of the laws. -/
import Derived.Test.YtdpekaejklmomaaNum
namespace Go.Proofs.Ytdpekaejklmomaa
open Go.ChangeShapes Go.WideShapes Go.ChangeAt Go.RowKit


def gcdOk (a b : Int) : Prop := -1152921504606846976 ≤ a ∧ a ≤ 1152921504606846976 ∧ -1152921504606846976 ≤ b ∧ b ≤ 1152921504606846976
instance (a b : Int) : Decidable (gcdOk a b) := by unfold gcdOk; infer_instance
def gcdOf (a b : Int) : Int := if gcdOk a b then (Int.gcd a b : Int) else -1
theorem gcdOf_in {a b : Int} (h : gcdOk a b) : gcdOf a b = (Int.gcd a b : Int) := by unfold gcdOf; rw [if_pos h]
theorem gcdOf_out {a b : Int} (h : ¬ gcdOk a b) : -1 = gcdOf a b := by unfold gcdOf; rw [if_neg h]
theorem gcd_step (a b : Int) : Int.gcd b (a.tmod b) = Int.gcd a b := by
  unfold Int.gcd
  rw [Int.natAbs_tmod, Nat.gcd_comm a.natAbs b.natAbs, Nat.gcd_rec b.natAbs a.natAbs]
  exact Nat.gcd_comm _ _
theorem tmod_small {x y M : Int} (hy : y ≠ 0) (h1 : -M ≤ y) (h2 : y ≤ M) : (x.tmod y).natAbs < y.natAbs ∧ -M ≤ x.tmod y ∧ x.tmod y ≤ M := by
  have h : (x.tmod y).natAbs < y.natAbs := by rw [Int.natAbs_tmod]; exact Nat.mod_lt _ (by omega)
  exact ⟨h, by omega, by omega⟩
theorem gcd_last (x : Int) : (Int.gcd x 0 : Int) = (x.natAbs : Int) := by rw [Int.gcd_zero_right]

set_option maxHeartbeats 400000 in
theorem workable_yes (n : Int) (w : World) (h1 : -1152921504606846976 ≤ n) (h2 : n ≤ 1152921504606846976) : Calls Try.prog 52 #[.int .i64 n] w fun e w' => e = .returned (.bool true) ∧ w = w' := by
  go_enter Try.func52, Try.ntmps52
  go_wp2_with (first | (go_at_call 58; refine (within_yes _ _ _ (by omega) (by omega) (by omega) (by omega)).mono ?_; rintro e w' ⟨rfl, rfl⟩) | (go_at_call 58; refine (within_no _ _ _ (by omega) (by omega) (by omega)).mono ?_; rintro e w' ⟨rfl, rfl⟩) | go_in)
  go_ret
  exact ⟨rfl, rfl⟩
theorem workable_no (n : Int) (w : World) (h : n < -1152921504606846976 ∨ 1152921504606846976 < n) : Calls Try.prog 52 #[.int .i64 n] w fun e w' => e = .returned (.bool false) ∧ w = w' := by
  go_enter Try.func52, Try.ntmps52
  go_wp2_with (first | (go_at_call 58; refine (within_yes _ _ _ (by omega) (by omega) (by omega) (by omega)).mono ?_; rintro e w' ⟨rfl, rfl⟩) | (go_at_call 58; refine (within_no _ _ _ (by omega) (by omega) (by omega)).mono ?_; rintro e w' ⟨rfl, rfl⟩) | go_in)
  go_ret
  exact ⟨rfl, rfl⟩
set_option maxHeartbeats 400000 in
theorem gcd_impl (a b : Int) (w : World) : Calls Try.prog 22 #[.int .i64 a, .int .i64 b] w fun e w' => e = .returned (.int .i64 (gcdOf a b)) ∧ ∃ m, w' = w.drewN m := by
  by_cases h : gcdOk a b
  · have HE := Lib.hid (gcdOf_in h)
    obtain ⟨h1, h2, h3, h4⟩ := h
    go_enter Try.func22, Try.ntmps22
    go_wp2_with (first | (go_at_call 52; refine (workable_yes _ _ (by omega) (by omega)).mono ?_; rintro e w' ⟨rfl, rfl⟩) | (go_at_call 52; refine (workable_no _ _ (by omega)).mono ?_; rintro e w' ⟨rfl, rfl⟩) | go_in)
    go_loopw [0, 1] (fun i j wr => ∃ (x y : Int) (n : Nat), i = .int .i64 x ∧ j = .int .i64 y ∧ wr = w.drewN n ∧ -1152921504606846976 ≤ x ∧ x ≤ 1152921504606846976 ∧ -1152921504606846976 ≤ y ∧ y ≤ 1152921504606846976 ∧ Hid (Int.gcd x y = Int.gcd a b)) (fun _ j _ => (RowKit.intOf j).natAbs)
    case atStart => exact ⟨a, b, 0, rfl, rfl, rfl, h1, h2, h3, h4, Lib.hid rfl⟩
    case round =>
      obtain ⟨x, y, n, rfl, rfl, rfl, x1, x2, y1, y2, HG⟩ := hrel
      by_cases hy : y = 0
      · subst hy
        have hg := HG.out
        have hl := gcd_last x
        rw [hg] at hl
        have HL := Lib.hid hl
        clear hg hl
        go_wp2
        all_goals
          go_ret
          have := HL.out
          have := HE.out
          exact ⟨ret_int (by omega), n, rfl⟩
      · obtain ⟨t0, t1, t2⟩ := tmod_small (x := x) hy y1 y2
        go_wp2_with fail
        go_quiet (fail)
        go_wp2
        go_roundw
        case rel => exact ⟨y, x.tmod y, n + nq, rfl, rfl, World.drewN_drewN .., y1, y2, t1, t2, Lib.hid ((gcd_step x y).trans HG.out)⟩
        case measure => exact t0
  · have HE := Lib.hid (gcdOf_out h)
    unfold gcdOk at h
    rcases (by omega : (a < -1152921504606846976 ∨ 1152921504606846976 < a) ∨ (-1152921504606846976 ≤ a ∧ a ≤ 1152921504606846976 ∧ (b < -1152921504606846976 ∨ 1152921504606846976 < b))) with h1 | ⟨h1, h2, h3⟩
    all_goals
      clear h
      go_enter Try.func22, Try.ntmps22
      go_wp2_with (first | (go_at_call 52; refine (workable_yes _ _ (by omega) (by omega)).mono ?_; rintro e w' ⟨rfl, rfl⟩) | (go_at_call 52; refine (workable_no _ _ (by omega)).mono ?_; rintro e w' ⟨rfl, rfl⟩) | go_in)
      go_ret
      exact ⟨ret_int HE.out, 0, rfl⟩
set_option maxHeartbeats 400000 in
theorem gcd_spec (a b : Int) (w : World) : Calls Try.prog 51 #[.int .i64 a, .int .i64 b] w fun e w' => e = .returned (.int .i64 (gcdOf a b)) ∧ ∃ m, w' = w.drewN m := by
  by_cases h : gcdOk a b
  · have HE := Lib.hid (gcdOf_in h)
    obtain ⟨h1, h2, h3, h4⟩ := h
    go_enter Try.func51, Try.ntmps51
    go_wp2_with (first | (go_at_call 46; refine (l1in_yes _ _ _ _ (by omega) (by omega)).mono ?_; rintro e w' ⟨rfl, rfl⟩) | (go_at_call 46; refine (l1in_no _ _ _ _ (by omega)).mono ?_; rintro e w' ⟨rfl, rfl⟩) | go_in)
    all_goals
      go_loop [0, 1] (fun i j => ∃ x y : Int, i = .int .i64 x ∧ j = .int .i64 y ∧ 0 ≤ x ∧ x ≤ 1152921504606846976 ∧ 0 ≤ y ∧ y ≤ 1152921504606846976 ∧ Hid (Int.gcd x y = Int.gcd a b)) (fun _ j => (RowKit.intOf j).natAbs)
      case atStart => exact ⟨_, _, rfl, rfl, by omega, by omega, by omega, by omega, Lib.hid (by simp only [Int.gcd_neg, Int.neg_gcd])⟩
      case round =>
        obtain ⟨x, y, rfl, rfl, x1, x2, y1, y2, HG⟩ := hrel
        by_cases hy : y = 0
        · subst hy
          have hg := HG.out
          have hl := gcd_last x
          rw [hg] at hl
          have HL := Lib.hid hl
          clear hg hl
          go_wp2
          go_ret
          have := HL.out
          have := HE.out
          exact ⟨ret_int (by omega), 0, rfl⟩
        · have hst := (gcd_step x y).trans HG.out
          rw [Int.tmod_eq_emod_of_nonneg x1] at hst
          have HS := Lib.hid hst
          have t1 := Int.emod_nonneg x hy
          have t2 := Int.emod_lt_of_pos x (show 0 < y by omega)
          clear hst
          go_wp2
          go_round
          case rel => exact ⟨y, x % y, rfl, rfl, y1, y2, t1, by omega, HS⟩
          case measure => simp [RowKit.intOf]; omega
  · have HE := Lib.hid (gcdOf_out h)
    unfold gcdOk at h
    rcases (by omega : (a < -1152921504606846976 ∨ 1152921504606846976 < a) ∨ (-1152921504606846976 ≤ a ∧ a ≤ 1152921504606846976 ∧ (b < -1152921504606846976 ∨ 1152921504606846976 < b))) with h1 | ⟨h1, h2, h3⟩
    all_goals
      clear h
      go_enter Try.func51, Try.ntmps51
      go_wp2_with (first | (go_at_call 46; refine (l1in_yes _ _ _ _ (by omega) (by omega)).mono ?_; rintro e w' ⟨rfl, rfl⟩) | (go_at_call 46; refine (l1in_no _ _ _ _ (by omega)).mono ?_; rintro e w' ⟨rfl, rfl⟩) | go_in)
      go_ret
      exact ⟨ret_int HE.out, 0, rfl⟩

end Go.Proofs.Ytdpekaejklmomaa
