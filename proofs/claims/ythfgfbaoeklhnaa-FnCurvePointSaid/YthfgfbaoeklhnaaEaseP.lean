/- Plain facts on easing and mixing. No condition: contracts for the walks of the laws. -/
import Derived.Test.YthfgfbaoeklhnaaEase
namespace Go.Proofs.Ythfgfbaoeklhnaa
open Go.ChangeShapes Go.WideShapes Go.ChangeAt Go.RowKit


def easeN (s : Nat) : Nat := s * s * (3072 - 2 * s) / 1048576
theorem easeN_all : ∀ s, s < 1025 → easeN s ≤ 1024 ∧ (s = 1024 ∨ easeN s ≤ easeN (s + 1)) ∧ easeN s + easeN (1024 - s) ≤ 1024 ∧ 1023 ≤ easeN s + easeN (1024 - s) := by decide +kernel
theorem ease_nat {s : Nat} (h : s ≤ 1024) : ease (s : Int) = (easeN s : Int) := by
  unfold ease easeN
  rw [if_pos ⟨by omega, by omega⟩]
  have e : (3072 : Int) - 2 * (s : Int) = ((3072 - 2 * s : Nat) : Int) := by omega
  rw [e, Int.natCast_ediv, Int.natCast_mul, Int.natCast_mul]
  rfl
theorem ease_facts {x : Int} (h0 : 0 ≤ x) (h1 : x ≤ 1024) : 0 ≤ ease x ∧ ease x ≤ 1024 ∧ (x = 1024 ∨ ease x ≤ ease (x + 1)) ∧ ease x + ease (1024 - x) ≤ 1024 ∧ 1023 ≤ ease x + ease (1024 - x) := by
  obtain ⟨s, rfl⟩ := Int.eq_ofNat_of_zero_le h0
  obtain ⟨f1, f2, f3, f4⟩ := easeN_all s (by omega)
  have e1 := ease_nat (s := s) (by omega)
  have e3 := ease_nat (s := 1024 - s) (by omega)
  rw [show ((1024 - s : Nat) : Int) = 1024 - (s : Int) by omega] at e3
  refine ⟨by omega, by omega, ?_, by omega, by omega⟩
  rcases f2 with h | h
  · left; omega
  · by_cases h' : s = 1024
    · left; omega
    · right
      have e2 := ease_nat (s := s + 1) (by omega)
      rw [show ((s + 1 : Nat) : Int) = (s : Int) + 1 by omega] at e2
      omega
theorem rnd_near (x : Int) : 1024 * rnd x 1024 ≤ x + 512 ∧ x - 512 ≤ 1024 * rnd x 1024 := by
  unfold rnd
  split <;> omega
theorem mix_between {a b s : Int} (h : mixOk a b s) : (a ≤ mix a b s ∧ mix a b s ≤ b) ∨ (b ≤ mix a b s ∧ mix a b s ≤ a) := by
  rw [← mix_in h]
  obtain ⟨-, -, -, -, h5, h6⟩ := h
  have n := rnd_near ((b - a) * s)
  rcases Int.le_total a b with hab | hab
  · left
    have e1 : 0 ≤ (b - a) * s := Int.mul_nonneg (by omega) h5
    have e2 : 0 ≤ (b - a) * (1024 - s) := Int.mul_nonneg (by omega) (by omega)
    rw [Int.mul_sub] at e2
    omega
  · right
    have e1 : 0 ≤ (a - b) * s := Int.mul_nonneg (by omega) h5
    have e2 : 0 ≤ (a - b) * (1024 - s) := Int.mul_nonneg (by omega) (by omega)
    have e3 : (a - b) * s = - ((b - a) * s) := by rw [← Int.neg_mul]; congr 1; omega
    rw [Int.mul_sub] at e2
    omega
theorem mix_zero {a b : Int} (h : mixOk a b 0) : mix a b 0 = a := by
  rw [← mix_in h]
  have n := rnd_near ((b - a) * 0)
  simp only [Int.mul_zero] at n ⊢
  omega
theorem mix_full {a b : Int} (h : mixOk a b 1024) : mix a b 1024 = b := by
  rw [← mix_in h]
  have n := rnd_near ((b - a) * 1024)
  omega
theorem mix_back {a b s : Int} (h : mixOk a b s) : mix b a (1024 - s) - mix a b s ≤ 1 ∧ mix a b s - mix b a (1024 - s) ≤ 1 := by
  have h' : mixOk b a (1024 - s) := by unfold mixOk at h ⊢; omega
  rw [← mix_in h, ← mix_in h']
  have n := rnd_near ((b - a) * s)
  have m := rnd_near ((a - b) * (1024 - s))
  have e : (a - b) * (1024 - s) = (b - a) * s - 1024 * (b - a) := by grind
  rw [e] at m ⊢
  omega
theorem curve_facts {a b c s : Int} (h : mixOk a b s) (h' : mixOk b c s) : (a ≤ curve a b c s ∨ b ≤ curve a b c s ∨ c ≤ curve a b c s) ∧ (curve a b c s ≤ a ∨ curve a b c s ≤ b ∨ curve a b c s ≤ c) := by
  rw [← curve_in ⟨h, h'⟩]
  have m1 := mix_between h
  have m2 := mix_between h'
  have m3 := mix_between (show mixOk (mix a b s) (mix b c s) s by unfold mixOk at h h' ⊢; omega)
  omega
theorem curve_zero {a b c : Int} (h : mixOk a b 0) (h' : mixOk b c 0) : curve a b c 0 = a := by
  rw [← curve_in ⟨h, h'⟩, mix_zero h, mix_zero h']; exact mix_zero h
theorem curve_full {a b c : Int} (h : mixOk a b 1024) (h' : mixOk b c 1024) : curve a b c 1024 = c := by
  rw [← curve_in ⟨h, h'⟩, mix_full h, mix_full h']; exact mix_full h'
theorem curve_same {b s : Int} (h : mixOk b b s) : curve b b b s = b := by
  have e : mix b b s = b := by have := mix_between h; omega
  rw [← curve_in ⟨h, h⟩, e, e]

end Go.Proofs.Ythfgfbaoeklhnaa
