/- Plain facts on fractions. No condition: contracts for the walks of the laws. -/
import Derived.Test.YtlcmpcjimmdcfaaFrac
import Derived.Test.YtlcmpcjimmdcfaaFrCmp
namespace Go.Proofs.Ytlcmpcjimmdcfaa
open Go.ChangeShapes Go.WideShapes Go.ChangeAt Go.RowKit


theorem frOk_two (t l : Int) : frOk (2 * t) (2 * l) = false := by
  unfold frOk
  rw [Int.gcd_mul_left]
  simp
  intros
  omega
theorem frOk_turn (t l : Int) : frOk (-t) l = frOk t l := by
  unfold frOk
  rw [Int.neg_gcd, decide_eq_decide]
  omega
/-- What a fraction that was made is. -/
theorem mkF_cross {t l p q : Int} (h : gcdOk t l) (hl : 0 < l) (hm : mkF t l = ((p, q), true)) : frOk p q = true ∧ p * l = t * q := by
  unfold mkF at hm
  rw [if_neg (by omega)] at hm
  rw [gcdOf_in h] at hm
  split at hm
  · rename_i hk
    simp only [Prod.mk.injEq, and_true] at hm
    obtain ⟨rfl, rfl⟩ := hm
    refine ⟨hk, ?_⟩
    obtain ⟨u, hu⟩ := Int.gcd_dvd_left t l
    obtain ⟨v, hv⟩ := Int.gcd_dvd_right t l
    have hg : (Int.gcd t l : Int) ≠ 0 := by
      have := Int.gcd_pos_of_ne_zero_right t (show l ≠ 0 by omega)
      omega
    generalize (Int.gcd t l : Int) = g at *
    rw [hu, hv, Int.mul_tdiv_cancel_left _ hg, Int.mul_tdiv_cancel_left _ hg]
    grind
  · simp at hm
theorem mkF_bad {t l p q : Int} (hm : mkF t l = ((p, q), false)) : p = 0 ∧ q = 0 := by
  unfold mkF at hm
  split at hm <;> split at hm
  all_goals first | (simp at hm; done) | (simp at hm; omega)
/-- Two numbers that are k times those of a valid fraction are it. -/
theorem mkF_same {t l a b : Int} (h : gcdOk t l) (hl : 0 < l) (ha : frOk a b = true) (hc : t * b = a * l) : mkF t l = ((a, b), true) := by
  obtain ⟨a1, a2, b1, b2, hg⟩ := frOk_mk ha
  have hd : b ∣ l := by
    have h1 : b ∣ a * l := ⟨t, by rw [← hc, Int.mul_comm]⟩
    have h2 := Int.natAbs_dvd_natAbs.2 h1
    rw [Int.natAbs_mul] at h2
    have h3 : Nat.Coprime b.natAbs a.natAbs := by show Int.gcd b a = 1; rw [Int.gcd_comm]; exact hg
    exact Int.natAbs_dvd_natAbs.1 (h3.dvd_of_dvd_mul_left h2)
  obtain ⟨k, rfl⟩ := hd
  have hk : 0 < k := by
    rcases Int.lt_or_le 0 k with h' | h'
    · exact h'
    · have := Int.mul_le_mul_of_nonneg_left h' (show 0 ≤ b by omega); omega
  have ht : t = k * a := by
    have h1 : (t - k * a) * b = 0 := by grind
    rcases Int.mul_eq_zero.1 h1 with h2 | h2 <;> omega
  subst ht
  have e : gcdOf (k * a) (b * k) = k := by
    rw [gcdOf_in h, Int.mul_comm b k, Int.gcd_mul_left, hg]
    omega
  unfold mkF
  rw [if_neg (by omega), e, Int.mul_tdiv_cancel_left _ (by omega), Int.mul_tdiv_cancel _ (by omega), if_pos ha]
theorem frOk_same {a b c d : Int} (h1 : frOk a b = true) (h2 : frOk c d = true) (hc : a * d = c * b) : a = c ∧ b = d := by
  obtain ⟨a1, a2, b1, b2, g1⟩ := frOk_mk h1
  obtain ⟨c1, c2, d1, d2, g2⟩ := frOk_mk h2
  have e := mkF_same (t := a) (l := b) (by unfold gcdOk; omega) (by omega) h2 hc
  have e2 := mkF_same (t := a) (l := b) (by unfold gcdOk; omega) (by omega) h1 rfl
  rw [e] at e2
  simp only [Prod.mk.injEq, and_true] at e2
  omega
theorem frAdd_comm (a b c d : Int) : frAdd c d a b = frAdd a b c d := by
  unfold frAdd
  rw [show c * b + a * d = a * d + c * b by omega, Int.mul_comm d b]
  by_cases h : frOk a b = true ∧ frOk c d = true
  · rw [if_pos h, if_pos h.symm]
  · rw [if_neg h, if_neg (fun x => h x.symm)]
theorem frMul_comm (a b c d : Int) : frMul c d a b = frMul a b c d := by
  unfold frMul
  rw [Int.mul_comm c a, Int.mul_comm d b]
  by_cases h : frOk a b = true ∧ frOk c d = true
  · rw [if_pos h, if_pos h.symm]
  · rw [if_neg h, if_neg (fun x => h x.symm)]
theorem frAdd_bad {a b c d p q : Int} (h : frAdd a b c d = ((p, q), false)) : p = 0 ∧ q = 0 := by
  unfold frAdd at h
  split at h
  · exact mkF_bad h
  · simp only [Prod.mk.injEq] at h; omega
theorem frMul_bad {a b c d p q : Int} (h : frMul a b c d = ((p, q), false)) : p = 0 ∧ q = 0 := by
  unfold frMul at h
  split at h
  · exact mkF_bad h
  · simp only [Prod.mk.injEq] at h; omega
theorem frAdd_good {a b c d p q : Int} (h : frAdd a b c d = ((p, q), true)) : frOk a b = true ∧ frOk c d = true ∧ frOk p q = true ∧ p * (b * d) = (a * d + c * b) * q := by
  unfold frAdd at h
  split at h
  · rename_i hk
    obtain ⟨a1, a2, b1, b2, c1, c2, d1, d2, m1, m2, m3, m4, m5, m6, m7, m8⟩ := fr_bds hk.1 hk.2
    have := mkF_cross (frAdd_ok hk.1 hk.2).1 (by omega) h
    exact ⟨hk.1, hk.2, this.1, this.2⟩
  · simp at h
theorem frMul_good {a b c d p q : Int} (h : frMul a b c d = ((p, q), true)) : frOk a b = true ∧ frOk c d = true ∧ frOk p q = true ∧ p * (b * d) = a * c * q := by
  unfold frMul at h
  split at h
  · rename_i hk
    obtain ⟨a1, a2, b1, b2, c1, c2, d1, d2, m1, m2, m3, m4, m5, m6, m7, m8⟩ := fr_bds hk.1 hk.2
    have := mkF_cross (frMul_ok hk.1 hk.2).1 (by omega) h
    exact ⟨hk.1, hk.2, this.1, this.2⟩
  · simp at h
theorem cancel_r {x y k : Int} (hk : k ≠ 0) (h : x * k = y * k) : x = y := Int.eq_of_mul_eq_mul_right hk h
theorem frOk_low {a b : Int} (h : frOk a b = true) : b ≠ 0 := by have := frOk_mk h; omega
/-- A sum can be taken back. -/
theorem frAdd_back {a b c d p q : Int} (h : frAdd a b c d = ((p, q), true)) : frAdd p q (-c) d = ((a, b), true) := by
  obtain ⟨h1, h2, h3, hc⟩ := frAdd_good h
  have h2' : frOk (-c) d = true := by rw [frOk_turn]; exact h2
  obtain ⟨p1, p2, q1, q2, c1, c2, d1, d2, m1, m2, m3, m4, m5, m6, m7, m8⟩ := fr_bds h3 h2'
  rw [frAdd_in h3 h2']
  refine mkF_same (frAdd_ok h3 h2').1 (by omega) h1 ?_
  refine cancel_r (k := d) (by omega) ?_
  have e : (p * d + -c * q) * b * d = p * (b * d) * d - c * q * b * d := by grind
  rw [e, hc]
  grind
/-- A product with a sum. -/
theorem frMul_spread {a b c d x y s t l m u v r z : Int} (hx : frMul a b c d = ((x, y), true)) (hs : frAdd c d 1 3 = ((s, t), true)) (hl : frMul a b s t = ((l, m), true)) (ho : frMul a b 1 3 = ((u, v), true)) (hr : frAdd x y u v = ((r, z), true)) : l = r ∧ m = z := by
  obtain ⟨k1, k2, k3, ex⟩ := frMul_good hx
  obtain ⟨-, -, k4, es⟩ := frAdd_good hs
  obtain ⟨-, -, k5, el⟩ := frMul_good hl
  obtain ⟨-, -, k6, eo⟩ := frMul_good ho
  obtain ⟨-, -, k7, er⟩ := frAdd_good hr
  have b0 := frOk_low k1
  have d0 := frOk_low k2
  have y0 := frOk_low k3
  have t0 := frOk_low k4
  have v0 := frOk_low k6
  refine frOk_same k5 k7 ?_
  have e1 : l * (3 * b * d) = a * m * (3 * c + d) := by
    refine cancel_r t0 ?_
    have : l * (3 * b * d) * t = l * (b * t) * (3 * d) := by grind
    rw [this, el]
    have : a * s * m * (3 * d) = a * m * (s * (d * 3)) := by grind
    rw [this, es]
    grind
  have e2 : r * (3 * b * d) = a * (3 * c + d) * z := by
    refine cancel_r y0 (cancel_r v0 ?_)
    have : r * (3 * b * d) * y * v = r * (y * v) * (3 * b * d) := by grind
    rw [this, er]
    have : (x * v + u * y) * z * (3 * b * d) = x * (b * d) * (3 * v * z) + u * (b * 3) * (y * z * d) := by grind
    rw [this, ex, eo]
    grind
  refine cancel_r (k := 3 * b * d) (by simp [b0, d0]) ?_
  have : l * z * (3 * b * d) = l * (3 * b * d) * z := by grind
  rw [this, e1]
  have : r * m * (3 * b * d) = r * (3 * b * d) * m := by grind
  rw [this, e2]
  grind
theorem cmpI_turn (x y : Int) : cmpI y x = -cmpI x y := by
  rcases Int.lt_trichotomy x y with h | h | h
  · rw [cmpI_lt h, cmpI_gt h]; rfl
  · rw [cmpI_eq h, cmpI_eq h.symm]; rfl
  · rw [cmpI_gt h, cmpI_lt h]
theorem cmpI_zero (x y : Int) : cmpI x y = 0 ↔ x = y := by
  rcases Int.lt_trichotomy x y with h | h | h
  · rw [cmpI_lt h]; omega
  · rw [cmpI_eq h]; omega
  · rw [cmpI_gt h]; omega
theorem cmpI_pos {x y x' y' k k' : Int} (hk : 0 < k) (hk' : 0 < k') (h : (x - y) * k = (x' - y') * k') : cmpI x y = cmpI x' y' := by
  rcases Int.lt_trichotomy x' y' with h1 | h1 | h1
  · have : (x' - y') * k' < 0 := Int.mul_neg_of_neg_of_pos (by omega) hk'
    rw [cmpI_lt h1]
    rcases Int.lt_or_le x y with h2 | h2
    · exact cmpI_lt h2
    · have := Int.mul_nonneg (show 0 ≤ x - y by omega) (show 0 ≤ k by omega); omega
  · rw [cmpI_eq h1]
    subst h1
    have h2 : (x - y) * k = 0 := by rw [h]; simp
    rcases Int.mul_eq_zero.1 h2 with h3 | h3
    · exact cmpI_eq (by omega)
    · omega
  · have : 0 < (x' - y') * k' := Int.mul_pos (by omega) hk'
    rw [cmpI_gt h1]
    rcases Int.lt_or_le y x with h2 | h2
    · exact cmpI_gt h2
    · have := Int.mul_nonneg (show 0 ≤ y - x by omega) (show 0 ≤ k by omega)
      have e : (y - x) * k = -((x - y) * k) := by grind
      omega
theorem cmpF_more {a b c d p q r s : Int} (h1 : frAdd a b 1 2 = ((p, q), true)) (h2 : frAdd c d 1 2 = ((r, s), true)) : cmpI (p * s) (r * q) = cmpI (a * d) (c * b) := by
  obtain ⟨k1, -, k2, e1⟩ := frAdd_good h1
  obtain ⟨k3, -, k4, e2⟩ := frAdd_good h2
  have b0 := (frOk_mk k1).2.2.1
  have q0 := (frOk_mk k2).2.2.1
  have d0 := (frOk_mk k3).2.2.1
  have s0 := (frOk_mk k4).2.2.1
  refine cmpI_pos (k := 2 * b * (2 * d)) (k' := 4 * q * s) (Int.mul_pos (by omega) (by omega)) (Int.mul_pos (by omega) (by omega)) ?_
  have e : (p * s - r * q) * (2 * b * (2 * d)) = p * (b * 2) * (2 * d * s) - r * (d * 2) * (2 * b * q) := by grind
  rw [e, e1, e2]
  grind

end Go.Proofs.Ytlcmpcjimmdcfaa
