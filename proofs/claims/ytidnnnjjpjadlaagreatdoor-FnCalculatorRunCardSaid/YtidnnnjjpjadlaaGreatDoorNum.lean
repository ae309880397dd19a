/- Whole numbers: what FloorDiv, RoundDiv and the reference's l1Floor, l1Round return. No condition: contracts for the walks of the laws. -/
import Derived.Test.YtidnnnjjpjadlaaGreatDoorBase
namespace Go.Proofs.YtidnnnjjpjadlaaGreatDoor
open Go.ChangeShapes Go.WideShapes Go.ChangeAt Go.RowKit

theorem tdiv_floor {a b : Int} (hb : 0 < b) : (a.tmod b < 0 → a.tdiv b - 1 = a / b) ∧ (0 ≤ a.tmod b → a.tdiv b = a / b) := by
  have h1 := Int.mul_tdiv_add_tmod a b
  have h2 := Int.mul_ediv_add_emod a b
  have h3 := Int.emod_nonneg a (Int.ne_of_gt hb)
  have h4 := Int.emod_lt_of_pos a hb
  have h5 := Int.tmod_lt_of_pos a hb
  have h6 : -b < a.tmod b := by
    have := Int.lt_tmod_of_pos a hb
    omega
  generalize a.tdiv b = q at *
  generalize a.tmod b = m at *
  generalize a / b = q' at *
  generalize a % b = m' at *
  refine ⟨fun hm => ?_, fun hm => ?_⟩
  · have e : b * (q - 1 - q') = m' - (m + b) := by rw [Int.mul_sub, Int.mul_sub]; omega
    have : q - 1 - q' = 0 := by
      rcases Int.lt_trichotomy (q - 1 - q') 0 with h | h | h
      · have := Int.mul_le_mul_of_nonneg_left (show q - 1 - q' ≤ -1 by omega) (Int.le_of_lt hb); omega
      · exact h
      · have := Int.mul_le_mul_of_nonneg_left (show 1 ≤ q - 1 - q' by omega) (Int.le_of_lt hb); omega
    omega
  · have e : b * (q - q') = m' - m := by rw [Int.mul_sub]; omega
    have : q - q' = 0 := by
      rcases Int.lt_trichotomy (q - q') 0 with h | h | h
      · have := Int.mul_le_mul_of_nonneg_left (show q - q' ≤ -1 by omega) (Int.le_of_lt hb); omega
      · exact h
      · have := Int.mul_le_mul_of_nonneg_left (show 1 ≤ q - q' by omega) (Int.le_of_lt hb); omega
    omega

theorem ediv_bd {a b : Int} (hb : 0 < b) : a / b * b ≤ a ∧ a < a / b * b + b := by
  have h2 := Int.mul_ediv_add_emod a b
  have h3 := Int.emod_nonneg a (Int.ne_of_gt hb)
  have h4 := Int.emod_lt_of_pos a hb
  rw [Int.mul_comm] at h2
  omega

theorem ediv_abs {a b M : Int} (hb : 1 ≤ b) (h1 : -M ≤ a) (h2 : a ≤ M) (hM : 0 ≤ M) : -M ≤ a / b ∧ a / b ≤ M := by
  constructor
  · rw [Int.le_ediv_iff_mul_le (by omega)]
    have := Int.mul_le_mul_of_nonneg_left hb hM
    rw [Int.neg_mul]; omega
  · rcases Int.lt_or_le a 0 with h | h
    · have := Int.ediv_neg_of_neg_of_pos (a := a) (b := b) h (by omega); omega
    · have := Int.ediv_le_self b h; omega

theorem tdiv_abs {a b M : Int} (hb : 1 ≤ b) (h1 : -M ≤ a) (h2 : a ≤ M) (hM : 0 ≤ M) : -M ≤ a.tdiv b ∧ a.tdiv b ≤ M + 1 := by
  have h := ediv_abs hb h1 h2 hM
  rcases Int.lt_or_le (a.tmod b) 0 with h3 | h3
  · have := (tdiv_floor (show 0 < b by omega)).1 h3; omega
  · have := (tdiv_floor (show 0 < b by omega)).2 h3; omega

theorem bits_and_one {q : Int} : bits .and .i64 q 1 = q % 2 := by
  show IntKind.i64.wrap ((BitVec.ofInt 64 q &&& BitVec.ofInt 64 1).toNat : Int) = _
  have e : (BitVec.ofInt 64 q &&& BitVec.ofInt 64 1).toNat = (q % 2).toNat := by
    rw [BitVec.toNat_and]
    have e1 : (BitVec.ofInt 64 (1 : Int)).toNat = 1 := by decide
    rw [e1, Nat.and_one_is_mod, BitVec.toNat_ofInt]
    omega
  rw [e, IntKind.wrap_i64]
  omega

theorem tmod2 (q : Int) : q.tmod 2 = 0 ↔ q % 2 = 0 := by
  rw [← Int.dvd_iff_tmod_eq_zero]; omega

/-- The rounded quotient. -/
def rnd (a b : Int) : Int := if b < 2 * (a - a / b * b) ∨ (2 * (a - a / b * b) = b ∧ a / b % 2 = 1) then a / b + 1 else a / b
theorem rnd_up {a b q : Int} (hq : a / b = q) (h : b < 2 * (a - q * b) ∨ (2 * (a - q * b) = b ∧ q % 2 = 1)) : q + 1 = rnd a b := by
  unfold rnd; rw [hq, if_pos h]
theorem rnd_down {a b q : Int} (hq : a / b = q) (h : ¬ (b < 2 * (a - q * b) ∨ (2 * (a - q * b) = b ∧ q % 2 = 1))) : q = rnd a b := by
  unfold rnd; rw [hq, if_neg h]

set_option maxHeartbeats 400000 in
theorem floordiv_any (a b : Int) (w : World) (h1 : -1152921504606846976 ≤ a) (h2 : a ≤ 1152921504606846976) (h3 : 1 ≤ b) (h4 : b ≤ 1152921504606846976) :
    Calls Tryz.prog 104 #[.int .i64 a, .int .i64 b] w fun e w' => e = .returned (.int .i64 (a / b)) ∧ w = w' := by
  obtain ⟨t1, t2⟩ := tdiv_abs h3 h1 h2 (by omega)
  obtain ⟨f1, f2⟩ := tdiv_floor (a := a) (show 0 < b by omega)
  by_cases h0 : 0 ≤ a
  · have m0 : 0 ≤ a % b := Int.emod_nonneg _ (by omega)
    have e0 := ediv_abs h3 h1 h2 (by omega)
    clear f1 f2 t1 t2
    go_enter Tryz.func104, Tryz.ntmps104
    go_wp2
    go_ret
    exact ⟨rfl, rfl⟩
  · by_cases hm : a.tmod b < 0
    · have H1 := Lib.hid (f1 hm)
      clear f1 f2
      go_enter Tryz.func104, Tryz.ntmps104
      go_wp2
      go_ret
      exact ⟨ret_int H1.out, rfl⟩
    · have H1 := Lib.hid (f2 (by omega))
      clear f1 f2
      go_enter Tryz.func104, Tryz.ntmps104
      go_wp2
      go_ret
      exact ⟨ret_int H1.out, rfl⟩

set_option maxHeartbeats 400000 in
theorem rounddiv_any (a b : Int) (w : World) (h1 : -1152921504606846976 ≤ a) (h2 : a ≤ 1152921504606846976) (h3 : 1 ≤ b) (h4 : b ≤ 1152921504606846976) :
    Calls Tryz.prog 94 #[.int .i64 a, .int .i64 b] w fun e w' => e = .returned (.int .i64 (rnd a b)) ∧ w = w' := by
  obtain ⟨e1, e2⟩ := ediv_abs h3 h1 h2 (by omega)
  obtain ⟨d1, d2⟩ := ediv_bd (a := a) (show 0 < b by omega)
  obtain ⟨q, hq⟩ : ∃ q, a / b = q := ⟨_, rfl⟩
  have HU := Lib.hid (fun h => rnd_up hq h)
  have HD := Lib.hid (fun h => rnd_down hq h)
  rw [hq] at e1 e2 d1 d2
  have ha : bits BinOp.and IntKind.i64 q 1 = q % 2 := bits_and_one
  rcases (by omega : b < 2 * (a - q * b) ∨ 2 * (a - q * b) < b ∨ (2 * (a - q * b) = b ∧ q % 2 = 1) ∨ (2 * (a - q * b) = b ∧ q % 2 = 0)) with h | h | ⟨h, h'⟩ | ⟨h, h'⟩
  all_goals
    go_enter Tryz.func94, Tryz.ntmps94
    go_wp2_with (first | (go_at_call 104; refine (floordiv_any _ _ _ (by omega) (by omega) (by omega) (by omega)).mono ?_; rintro e w' ⟨rfl, rfl⟩) | go_in)
    go_ret
    first | exact ⟨ret_int (HU.out (by omega)), rfl⟩ | exact ⟨ret_int (HD.out (by omega)), rfl⟩

set_option maxHeartbeats 400000 in
theorem l1floor_any (a b : Int) (w : World) (h1 : -1152921504606846976 ≤ a) (h2 : a ≤ 1152921504606846976) (h3 : 1 ≤ b) (h4 : b ≤ 1152921504606846976) :
    Calls Tryz.prog 69 #[.int .i64 a, .int .i64 b] w fun e w' => e = .returned (.int .i64 (a / b)) ∧ w = w' := by
  obtain ⟨t1, t2⟩ := tdiv_abs h3 h1 h2 (by omega)
  obtain ⟨f1, f2⟩ := tdiv_floor (a := a) (show 0 < b by omega)
  by_cases h0 : 0 ≤ a
  · have m0 : 0 ≤ a % b := Int.emod_nonneg _ (by omega)
    have e0 := ediv_abs h3 h1 h2 (by omega)
    clear f1 f2 t1 t2
    go_enter Tryz.func69, Tryz.ntmps69
    go_wp2
    go_ret
    exact ⟨rfl, rfl⟩
  · by_cases hm : a.tmod b < 0
    · have H1 := Lib.hid (f1 hm)
      clear f1 f2
      go_enter Tryz.func69, Tryz.ntmps69
      go_wp2
      go_ret
      exact ⟨ret_int H1.out, rfl⟩
    · have H1 := Lib.hid (f2 (by omega))
      clear f1 f2
      go_enter Tryz.func69, Tryz.ntmps69
      go_wp2
      go_ret
      exact ⟨ret_int H1.out, rfl⟩

set_option maxHeartbeats 400000 in
theorem l1round_any (a b : Int) (w : World) (h1 : -1152921504606846976 ≤ a) (h2 : a ≤ 1152921504606846976) (h3 : 1 ≤ b) (h4 : b ≤ 1152921504606846976) :
    Calls Tryz.prog 67 #[.int .i64 a, .int .i64 b] w fun e w' => e = .returned (.int .i64 (rnd a b)) ∧ w = w' := by
  obtain ⟨e1, e2⟩ := ediv_abs h3 h1 h2 (by omega)
  obtain ⟨d1, d2⟩ := ediv_bd (a := a) (show 0 < b by omega)
  obtain ⟨q, hq⟩ : ∃ q, a / b = q := ⟨_, rfl⟩
  have HU := Lib.hid (fun h => rnd_up hq h)
  have HD := Lib.hid (fun h => rnd_down hq h)
  rw [hq] at e1 e2 d1 d2
  have t0 := tmod2 q
  have T0 := Lib.hid t0
  rcases (by omega : b < 2 * (a - q * b) ∨ 2 * (a - q * b) < b ∨ (2 * (a - q * b) = b ∧ ¬ q.tmod 2 = 0) ∨ (2 * (a - q * b) = b ∧ q.tmod 2 = 0)) with h | h | ⟨h, h'⟩ | ⟨h, h'⟩
  all_goals
    clear t0
    go_enter Tryz.func67, Tryz.ntmps67
    go_wp2_with (first | (go_at_call 69; refine (l1floor_any _ _ _ (by omega) (by omega) (by omega) (by omega)).mono ?_; rintro e w' ⟨rfl, rfl⟩) | go_in)
    go_ret
    have t0 := T0.out
    first | exact ⟨ret_int (HU.out (by omega)), rfl⟩ | exact ⟨ret_int (HD.out (by omega)), rfl⟩

theorem l1in_yes (n lo hi : Int) (w : World) (h1 : lo ≤ n) (h2 : n ≤ hi) : Calls Tryz.prog 73 #[.int .i64 n, .int .i64 lo, .int .i64 hi] w fun e w' => e = .returned (.bool true) ∧ w = w' := by
  have d2 : decide (n ≤ hi) = true := by simpa using h2
  go_enter Tryz.func73, Tryz.ntmps73
  go_wp2
  go_ret
  exact ⟨rfl, rfl⟩
theorem l1in_no (n lo hi : Int) (w : World) (h : n < lo ∨ hi < n) : Calls Tryz.prog 73 #[.int .i64 n, .int .i64 lo, .int .i64 hi] w fun e w' => e = .returned (.bool false) ∧ w = w' := by
  by_cases h1 : n < lo
  · clear h
    go_enter Tryz.func73, Tryz.ntmps73
    go_wp2
    go_ret
    exact ⟨rfl, rfl⟩
  · have h2 : hi < n := by omega
    have d2 : decide (n ≤ hi) = false := by simpa using h2
    have h3 : lo ≤ n := by omega
    clear h h1
    go_enter Tryz.func73, Tryz.ntmps73
    go_wp2
    go_ret
    exact ⟨rfl, rfl⟩

theorem within_yes (n m : Int) (w : World) (h0 : 0 ≤ m) (h3 : m ≤ 9223372036854775807) (h1 : -m ≤ n) (h2 : n ≤ m) : Calls Tryz.prog 121 #[.int .i64 n, .int .i64 m] w fun e w' => e = .returned (.bool true) ∧ w = w' := by
  have d2 : decide (n ≤ m) = true := by simpa using h2
  go_enter Tryz.func121, Tryz.ntmps121
  go_wp2
  go_ret
  exact ⟨rfl, rfl⟩
theorem within_no (n m : Int) (w : World) (h0 : 0 ≤ m) (h3 : m ≤ 9223372036854775807) (h : n < -m ∨ m < n) : Calls Tryz.prog 121 #[.int .i64 n, .int .i64 m] w fun e w' => e = .returned (.bool false) ∧ w = w' := by
  by_cases h1 : n < -m
  · clear h
    go_enter Tryz.func121, Tryz.ntmps121
    go_wp2
    go_ret
    exact ⟨rfl, rfl⟩
  · have h2 : m < n := by omega
    have d2 : decide (n ≤ m) = false := by simpa using h2
    have h4 : -m ≤ n := by omega
    clear h h1
    go_enter Tryz.func121, Tryz.ntmps121
    go_wp2
    go_ret
    exact ⟨rfl, rfl⟩
end Go.Proofs.YtidnnnjjpjadlaaGreatDoor
