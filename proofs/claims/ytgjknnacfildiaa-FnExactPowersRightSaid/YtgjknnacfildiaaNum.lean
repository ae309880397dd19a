/- Whole numbers: what FloorDiv, RoundDiv and the reference's l1Floor, l1Round return. No condition: contracts for the walks of the laws. -/
import Derived.Test.YtgjknnacfildiaaBase
namespace Go.Proofs.Ytgjknnacfildiaa
open Go.ChangeShapes Go.WideShapes Go.ChangeAt Go.RowKit

theorem tdiv_floor {a b : Int} (hb : 0 < b) : (a.tmod b < 0 → a.tdiv b - 1 = a / b) ∧ (0 ≤ a.tmod b → a.tdiv b = a / b) := by
  have h1 := Int.mul_tdiv_add_tmod a b
  have h2 := Int.mul_ediv_add_emod a b
  have h3 := Int.emod_nonneg a (Int.ne_of_gt hb)
  have h4 := Int.emod_lt_of_pos a hb
  have h5 := Int.tmod_lt_of_pos a hb
  have h6 : -b < a.tmod b := by
    have := Int.lt_tmod_of_pos a hb
    omega
  generalize a.tdiv b = q at *
  generalize a.tmod b = m at *
  generalize a / b = q' at *
  generalize a % b = m' at *
  refine ⟨fun hm => ?_, fun hm => ?_⟩
  · have e : b * (q - 1 - q') = m' - (m + b) := by rw [Int.mul_sub, Int.mul_sub]; omega
    have : q - 1 - q' = 0 := by
      rcases Int.lt_trichotomy (q - 1 - q') 0 with h | h | h
      · have := Int.mul_le_mul_of_nonneg_left (show q - 1 - q' ≤ -1 by omega) (Int.le_of_lt hb); omega
      · exact h
      · have := Int.mul_le_mul_of_nonneg_left (show 1 ≤ q - 1 - q' by omega) (Int.le_of_lt hb); omega
    omega
  · have e : b * (q - q') = m' - m := by rw [Int.mul_sub]; omega
    have : q - q' = 0 := by
      rcases Int.lt_trichotomy (q - q') 0 with h | h | h
      · have := Int.mul_le_mul_of_nonneg_left (show q - q' ≤ -1 by omega) (Int.le_of_lt hb); omega
      · exact h
      · have := Int.mul_le_mul_of_nonneg_left (show 1 ≤ q - q' by omega) (Int.le_of_lt hb); omega
    omega

theorem ediv_bd {a b : Int} (hb : 0 < b) : a / b * b ≤ a ∧ a < a / b * b + b := by
  have h2 := Int.mul_ediv_add_emod a b
  have h3 := Int.emod_nonneg a (Int.ne_of_gt hb)
  have h4 := Int.emod_lt_of_pos a hb
  rw [Int.mul_comm] at h2
  omega

theorem ediv_abs {a b M : Int} (hb : 1 ≤ b) (h1 : -M ≤ a) (h2 : a ≤ M) (hM : 0 ≤ M) : -M ≤ a / b ∧ a / b ≤ M := by
  constructor
  · rw [Int.le_ediv_iff_mul_le (by omega)]
    have := Int.mul_le_mul_of_nonneg_left hb hM
    rw [Int.neg_mul]; omega
  · rcases Int.lt_or_le a 0 with h | h
    · have := Int.ediv_neg_of_neg_of_pos (a := a) (b := b) h (by omega); omega
    · have := Int.ediv_le_self b h; omega

theorem tdiv_abs {a b M : Int} (hb : 1 ≤ b) (h1 : -M ≤ a) (h2 : a ≤ M) (hM : 0 ≤ M) : -M ≤ a.tdiv b ∧ a.tdiv b ≤ M + 1 := by
  have h := ediv_abs hb h1 h2 hM
  rcases Int.lt_or_le (a.tmod b) 0 with h3 | h3
  · have := (tdiv_floor (show 0 < b by omega)).1 h3; omega
  · have := (tdiv_floor (show 0 < b by omega)).2 h3; omega

theorem bits_and_one {q : Int} : bits .and .i64 q 1 = q % 2 := by
  show IntKind.i64.wrap ((BitVec.ofInt 64 q &&& BitVec.ofInt 64 1).toNat : Int) = _
  have e : (BitVec.ofInt 64 q &&& BitVec.ofInt 64 1).toNat = (q % 2).toNat := by
    rw [BitVec.toNat_and]
    have e1 : (BitVec.ofInt 64 (1 : Int)).toNat = 1 := by decide
    rw [e1, Nat.and_one_is_mod, BitVec.toNat_ofInt]
    omega
  rw [e, IntKind.wrap_i64]
  omega

theorem tmod2 (q : Int) : q.tmod 2 = 0 ↔ q % 2 = 0 := by
  rw [← Int.dvd_iff_tmod_eq_zero]; omega

/-- The rounded quotient. -/
def rnd (a b : Int) : Int := if b < 2 * (a - a / b * b) ∨ (2 * (a - a / b * b) = b ∧ a / b % 2 = 1) then a / b + 1 else a / b
theorem rnd_up {a b q : Int} (hq : a / b = q) (h : b < 2 * (a - q * b) ∨ (2 * (a - q * b) = b ∧ q % 2 = 1)) : q + 1 = rnd a b := by
  unfold rnd; rw [hq, if_pos h]
theorem rnd_down {a b q : Int} (hq : a / b = q) (h : ¬ (b < 2 * (a - q * b) ∨ (2 * (a - q * b) = b ∧ q % 2 = 1))) : q = rnd a b := by
  unfold rnd; rw [hq, if_neg h]





theorem l1in_yes (n lo hi : Int) (w : World) (h1 : lo ≤ n) (h2 : n ≤ hi) : Calls Try.prog 6 #[.int .i64 n, .int .i64 lo, .int .i64 hi] w fun e w' => e = .returned (.bool true) ∧ w = w' := by
  have d2 : decide (n ≤ hi) = true := by simpa using h2
  go_enter Try.func6, Try.ntmps6
  go_wp2
  go_ret
  exact ⟨rfl, rfl⟩
theorem l1in_no (n lo hi : Int) (w : World) (h : n < lo ∨ hi < n) : Calls Try.prog 6 #[.int .i64 n, .int .i64 lo, .int .i64 hi] w fun e w' => e = .returned (.bool false) ∧ w = w' := by
  by_cases h1 : n < lo
  · clear h
    go_enter Try.func6, Try.ntmps6
    go_wp2
    go_ret
    exact ⟨rfl, rfl⟩
  · have h2 : hi < n := by omega
    have d2 : decide (n ≤ hi) = false := by simpa using h2
    have h3 : lo ≤ n := by omega
    clear h h1
    go_enter Try.func6, Try.ntmps6
    go_wp2
    go_ret
    exact ⟨rfl, rfl⟩

end Go.Proofs.Ytgjknnacfildiaa
