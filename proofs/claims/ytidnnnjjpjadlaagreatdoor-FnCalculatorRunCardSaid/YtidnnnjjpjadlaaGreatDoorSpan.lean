/- Spans: validity; rounding by a shift. No condition: contracts for the walks of the laws. -/
import Derived.Test.YtidnnnjjpjadlaaGreatDoorFmt
namespace Go.Proofs.YtidnnnjjpjadlaaGreatDoor
open Go.ChangeShapes Go.WideShapes Go.ChangeAt Go.RowKit

def spB (a b : Int) : Bool := decide (-1073741824 ≤ a ∧ a ≤ 1073741824 ∧ -1073741824 ≤ b ∧ b ≤ 1073741824 ∧ a ≤ b)
theorem spB_in {a b : Int} (h1 : -1073741824 ≤ a) (h2 : a ≤ 1073741824) (h3 : -1073741824 ≤ b) (h4 : b ≤ 1073741824) (h5 : a ≤ b) : true = spB a b := by unfold spB; simp [*]
theorem spB_out {a b : Int} (h : ¬ (-1073741824 ≤ a ∧ a ≤ 1073741824 ∧ -1073741824 ≤ b ∧ b ≤ 1073741824 ∧ a ≤ b)) : false = spB a b := by unfold spB; exact (decide_eq_false h).symm
theorem spB_mk {a b : Int} (h : spB a b = true) : -1073741824 ≤ a ∧ a ≤ 1073741824 ∧ -1073741824 ≤ b ∧ b ≤ 1073741824 ∧ a ≤ b := by unfold spB at h; simpa using h
theorem and_mask {n : Int} {k : Nat} (hk : k ≤ 61) : bits .and .i64 n (2 ^ k - 1) = n % 2 ^ k := by
  have hp : (2 : Nat) ^ k ≤ 2 ^ 61 := Nat.pow_le_pow_right (by decide) hk
  have hp0 : 0 < (2 : Nat) ^ k := Nat.pow_pos (by decide)
  have e1 : ((2 : Int) ^ k - 1) = ((2 ^ k - 1 : Nat) : Int) := by
    have : ((2 ^ k : Nat) : Int) = (2 : Int) ^ k := by rw [Int.natCast_pow]; rfl
    omega
  have e2 : (BitVec.ofInt 64 ((2 : Int) ^ k - 1)).toNat = 2 ^ k - 1 := by
    rw [e1, BitVec.ofInt_natCast, BitVec.toNat_ofNat]
    exact Nat.mod_eq_of_lt (by omega)
  show IntKind.i64.wrap ((BitVec.ofInt 64 n &&& BitVec.ofInt 64 (2 ^ k - 1)).toNat : Int) = n % 2 ^ k
  rw [BitVec.toNat_and, e2, Nat.and_two_pow_sub_one_eq_mod, BitVec.toNat_ofInt]
  have e3 : (((n % ((2 ^ 64 : Nat) : Int)).toNat % 2 ^ k : Nat) : Int) = n % 2 ^ k := by
    rw [Int.natCast_emod, Int.toNat_of_nonneg (Int.emod_nonneg _ (by decide)), Int.natCast_pow]
    exact Int.emod_emod_of_dvd _ ⟨((2 ^ (64 - k) : Nat) : Int), by rw [Int.natCast_pow, ← Int.natCast_pow, ← Int.natCast_pow, ← Int.natCast_mul, ← Nat.pow_add, show k + (64 - k) = 64 by omega]⟩
  rw [e3]
  have hpk : ((2 ^ k : Nat) : Int) = (2 : Int) ^ k := by rw [Int.natCast_pow]; rfl
  have := Int.emod_nonneg n (b := (2 : Int) ^ k) (by omega)
  have := Int.emod_lt_of_pos n (b := (2 : Int) ^ k) (by omega)
  exact IntWalk.i64_in _ (by omega)
theorem and_one (n : Int) : bits .and .i64 n 1 = n % 2 := by have := and_mask (n := n) (k := 1) (by decide); simpa using this
theorem p2_bd {k : Int} (h1 : 0 ≤ k) (h2 : k ≤ 28) : 1 ≤ (2 : Int) ^ k.toNat ∧ (2 : Int) ^ k.toNat ≤ 268435456 := by
  have hk : k.toNat ≤ 28 := by omega
  generalize k.toNat = m at hk
  have e1 : (2 : Nat) ^ m ≤ 2 ^ 28 := Nat.pow_le_pow_right (by omega) hk
  have e3 : 0 < (2 : Nat) ^ m := Nat.pow_pos (by decide)
  have e2 : ((2 ^ m : Nat) : Int) = (2 : Int) ^ m := by rw [Int.natCast_pow]; rfl
  omega
set_option maxHeartbeats 400000 in
theorem spv_impl (a b : Int) (w : World) : Calls Tryz.prog 129 #[.agg #[.int .i64 a, .int .i64 b]] w fun e w' => e = .returned (.bool (spB a b)) ∧ ∃ m, w' = (w.alloc (.cells #[.int .i64 a, .int .i64 b] 85)).drewN m := by
  rcases (by omega : (-1073741824 ≤ a ∧ a ≤ 1073741824 ∧ -1073741824 ≤ b ∧ b ≤ 1073741824 ∧ a ≤ b) ∨ (a < -1073741824 ∨ 1073741824 < a) ∨ (-1073741824 ≤ a ∧ a ≤ 1073741824 ∧ (b < -1073741824 ∨ 1073741824 < b)) ∨ (-1073741824 ≤ a ∧ a ≤ 1073741824 ∧ -1073741824 ≤ b ∧ b ≤ 1073741824 ∧ b < a)) with ⟨h1, h2, h3, h4, h5⟩ | h1 | ⟨h1, h2, h3⟩ | ⟨h1, h2, h3, h4, h5⟩
  · have HE := Lib.hid (spB_in h1 h2 h3 h4 h5)
    go_enter Tryz.func129, Tryz.ntmps129
    go_wp2_with (first | (go_at_call 121; refine (within_yes _ _ _ (by omega) (by omega) (by omega) (by omega)).mono ?_; rintro e w' ⟨rfl, rfl⟩) | (go_at_call 121; refine (within_no _ _ _ (by omega) (by omega) (by omega)).mono ?_; rintro e w' ⟨rfl, rfl⟩))
    go_ret
    exact ⟨ret_bool (by first | exact HE.out | (rw [← HE.out]; simp; done) | (rw [← HE.out]; simp; omega)), 0, rfl⟩
  all_goals
    have HE := Lib.hid (spB_out (a := a) (b := b) (by omega))
    go_enter Tryz.func129, Tryz.ntmps129
    go_wp2_with (first | (go_at_call 121; refine (within_yes _ _ _ (by omega) (by omega) (by omega) (by omega)).mono ?_; rintro e w' ⟨rfl, rfl⟩) | (go_at_call 121; refine (within_no _ _ _ (by omega) (by omega) (by omega)).mono ?_; rintro e w' ⟨rfl, rfl⟩))
    go_ret
    exact ⟨ret_bool (by first | exact HE.out | (rw [← HE.out]; simp; done) | (rw [← HE.out]; simp; omega)), 0, rfl⟩
theorem spvb_impl {a b : Int} {o : Bool} (h : spB a b = o) (w : World) : Calls Tryz.prog 129 #[.agg #[.int .i64 a, .int .i64 b]] w fun e w' => e = .returned (.bool o) ∧ ∃ m, w' = (w.alloc (.cells #[.int .i64 a, .int .i64 b] 85)).drewN m := h ▸ spv_impl a b w

set_option maxHeartbeats 400000 in
theorem spv_spec (a b : Int) (w : World) : Calls Tryz.prog 105 #[.agg #[.int .i64 a, .int .i64 b]] w fun e w' => e = .returned (.bool (spB a b)) ∧ ∃ m, w' = (w.alloc (.cells #[.int .i64 a, .int .i64 b] 85)).drewN m := by
  rcases (by omega : (-1073741824 ≤ a ∧ a ≤ 1073741824 ∧ -1073741824 ≤ b ∧ b ≤ 1073741824 ∧ a ≤ b) ∨ (a < -1073741824 ∨ 1073741824 < a) ∨ (-1073741824 ≤ a ∧ a ≤ 1073741824 ∧ (b < -1073741824 ∨ 1073741824 < b)) ∨ (-1073741824 ≤ a ∧ a ≤ 1073741824 ∧ -1073741824 ≤ b ∧ b ≤ 1073741824 ∧ b < a)) with ⟨h1, h2, h3, h4, h5⟩ | h1 | ⟨h1, h2, h3⟩ | ⟨h1, h2, h3, h4, h5⟩
  · have HE := Lib.hid (spB_in h1 h2 h3 h4 h5)
    go_enter Tryz.func105, Tryz.ntmps105
    go_wp2_with (first | (go_at_call 73; refine (l1in_yes _ _ _ _ (by omega) (by omega)).mono ?_; rintro e w' ⟨rfl, rfl⟩) | (go_at_call 73; refine (l1in_no _ _ _ _ (by omega)).mono ?_; rintro e w' ⟨rfl, rfl⟩))
    go_ret
    exact ⟨ret_bool (by first | exact HE.out | (rw [← HE.out]; simp; done) | (rw [← HE.out]; simp; omega)), 0, rfl⟩
  all_goals
    have HE := Lib.hid (spB_out (a := a) (b := b) (by omega))
    go_enter Tryz.func105, Tryz.ntmps105
    go_wp2_with (first | (go_at_call 73; refine (l1in_yes _ _ _ _ (by omega) (by omega)).mono ?_; rintro e w' ⟨rfl, rfl⟩) | (go_at_call 73; refine (l1in_no _ _ _ _ (by omega)).mono ?_; rintro e w' ⟨rfl, rfl⟩))
    go_ret
    exact ⟨ret_bool (by first | exact HE.out | (rw [← HE.out]; simp; done) | (rw [← HE.out]; simp; omega)), 0, rfl⟩
theorem spvb_spec {a b : Int} {o : Bool} (h : spB a b = o) (w : World) : Calls Tryz.prog 105 #[.agg #[.int .i64 a, .int .i64 b]] w fun e w' => e = .returned (.bool o) ∧ ∃ m, w' = (w.alloc (.cells #[.int .i64 a, .int .i64 b] 85)).drewN m := h ▸ spv_spec a b w

set_option maxHeartbeats 1000000 in
theorem rs_impl (n k : Int) (w : World) (h1 : -1073741824 ≤ n) (h2 : n ≤ 1073741824) (h3 : 0 ≤ k) (h4 : k ≤ 28) : Calls Tryz.prog 87 #[.int .i64 n, .int .i64 k] w fun e w' => e = .returned (.int .i64 (rnd n (2 ^ k.toNat))) ∧ w = w' := by
  obtain ⟨b1, b2⟩ := p2_bd h3 h4
  have hm := and_mask (n := n) (k := k.toNat) (by omega)
  have d1 := Int.emod_nonneg n (b := (2 : Int) ^ k.toNat) (by omega)
  have d2 := Int.emod_lt_of_pos n (b := (2 : Int) ^ k.toNat) (by omega)
  have ho := and_one (n / 2 ^ k.toNat)
  have hmd := Int.emod_def n ((2 : Int) ^ k.toNat)
  have hq := ediv_abs (a := n) (b := 2 ^ k.toNat) (M := 1073741824) b1 h1 h2 (by omega)
  go_enter Tryz.func87, Tryz.ntmps87
  go_wp2_with (first | (go_at_call 121; refine (within_yes _ _ _ (by omega) (by omega) (by omega) (by omega)).mono ?_; rintro e w' ⟨rfl, rfl⟩) | (go_at_call 121; refine (within_no _ _ _ (by omega) (by omega) (by omega)).mono ?_; rintro e w' ⟨rfl, rfl⟩) | go_in)
  all_goals
    go_ret
    refine ⟨ret_int ?_, rfl⟩
    unfold rnd
    have hc := Int.mul_comm (n / 2 ^ k.toNat) (2 ^ k.toNat)
    clear hm hmd d1 d2
    obtain ⟨u, hu, hu2⟩ : ∃ u, bits .and .i64 (n / 2 ^ k.toNat) 1 = u ∧ u = n / 2 ^ k.toNat % 2 := ⟨_, rfl, ho⟩
    clear ho
    (try rw [hu] at *)
    (try simp only [beq_iff_eq, beq_eq_false_iff_ne, ne_eq] at *)
    generalize n / 2 ^ k.toNat = D at *
    generalize (2 : Int) ^ k.toNat = B at *
    split <;> omega


end Go.Proofs.YtidnnnjjpjadlaaGreatDoor
