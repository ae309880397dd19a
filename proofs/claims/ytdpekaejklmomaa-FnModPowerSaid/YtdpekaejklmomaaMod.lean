/- ModPower and ModInverse. No condition: contracts for the walks of the laws. -/
import Derived.Test.YtdpekaejklmomaaNum
namespace Go.Proofs.Ytdpekaejklmomaa
open Go.ChangeShapes Go.WideShapes Go.ChangeAt Go.RowKit


def mpOk (a e m : Int) : Prop := 0 ≤ a ∧ a ≤ 999999 ∧ 0 ≤ e ∧ e ≤ 1152921504606846976 ∧ 1 ≤ m ∧ m ≤ 1000000
instance (a e m : Int) : Decidable (mpOk a e m) := by unfold mpOk; infer_instance
def modPow (a e m : Int) : Int := if mpOk a e m then a ^ e.toNat % m else -1
theorem modPow_in {a e m : Int} (h : mpOk a e m) : a ^ e.toNat % m = modPow a e m := by unfold modPow; rw [if_pos h]
theorem modPow_out {a e m : Int} (h : ¬ mpOk a e m) : -1 = modPow a e m := by unfold modPow; rw [if_neg h]
theorem pow_emod' (x m : Int) (n : Nat) : (x % m) ^ n % m = x ^ n % m := by
  induction n with
  | zero => simp
  | succ n ih => rw [Int.pow_succ, Int.pow_succ, Int.mul_emod, ih, Int.emod_emod_of_dvd _ (Int.dvd_refl m), ← Int.mul_emod]
theorem pow_dbl (s : Int) (n : Nat) : s ^ (2 * n) = (s * s) ^ n := by
  rw [Int.pow_mul, show s ^ 2 = s * s by rw [Int.pow_succ, Int.pow_succ, Int.pow_zero, Int.one_mul]]
theorem mp_even {p s k m : Int} (hk : 0 ≤ k) (h : k % 2 = 0) : p * (s * s % m) ^ (k / 2).toNat % m = p * s ^ k.toNat % m := by
  have e : k.toNat = 2 * (k / 2).toNat := by omega
  rw [Int.mul_emod, pow_emod', ← Int.mul_emod, e, pow_dbl]
theorem mp_odd {p s k m : Int} (hk : 0 ≤ k) (h : k % 2 = 1) : (p * s % m) * (s * s % m) ^ (k / 2).toNat % m = p * s ^ k.toNat % m := by
  have e : k.toNat = 2 * (k / 2).toNat + 1 := by omega
  rw [Int.mul_emod, pow_emod', Int.emod_emod_of_dvd _ (Int.dvd_refl m), ← Int.mul_emod, e, Int.pow_succ, pow_dbl]
  congr 1
  grind
theorem mp_start {a e m : Int} : (1 % m) * (a % m) ^ e.toNat % m = a ^ e.toNat % m := by
  rw [Int.mul_emod, pow_emod', Int.emod_emod_of_dvd _ (Int.dvd_refl m), ← Int.mul_emod, Int.one_mul]
theorem small_mul {p s m : Int} (hm : 1 ≤ m) (hm' : m ≤ 1000000) (h1 : 0 ≤ p) (h2 : p < m) (h3 : 0 ≤ s) (h4 : s < m) : 0 ≤ p * s ∧ p * s ≤ 1000000000000 := by
  refine ⟨Int.mul_nonneg h1 h3, ?_⟩
  have := Int.mul_le_mul (show p ≤ 1000000 by omega) (show s ≤ 1000000 by omega) h3 (by omega)
  omega
theorem emod_bd (x : Int) {m : Int} (hm : 1 ≤ m) : 0 ≤ x % m ∧ x % m < m := ⟨Int.emod_nonneg _ (by omega), Int.emod_lt_of_pos _ (by omega)⟩

end Go.Proofs.Ytdpekaejklmomaa
