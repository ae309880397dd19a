/- The plain law of powers of square tables. No condition. -/
import Derived.Test.YthfgfbaoeklhnaaSq
namespace Go.Proofs.Ythfgfbaoeklhnaa
open Go.ChangeShapes Go.WideShapes Go.ChangeAt Go.RowKit

def Sq.npow (s : Sq) : Nat → Sq
  | 0 => Sq.one
  | n + 1 => (Sq.npow s n).mul s
theorem Sq.mul_assoc' (x y z : Sq) : (x.mul y).mul z = x.mul (y.mul z) := by
  obtain ⟨a, b, c, d⟩ := x; obtain ⟨e, f, g, h⟩ := y; obtain ⟨i, j, k, l⟩ := z
  simp only [Sq.mul, Sq.mk.injEq]
  refine ⟨?_, ?_, ?_, ?_⟩ <;> grind
theorem Sq.mul_one' (x : Sq) : x.mul Sq.one = x := by
  obtain ⟨a, b, c, d⟩ := x
  simp [Sq.mul, Sq.one]
theorem Sq.npow_add (s : Sq) (m : Nat) : ∀ n, Sq.npow s (m + n) = (Sq.npow s m).mul (Sq.npow s n)
  | 0 => by rw [Nat.add_zero, Sq.npow, Sq.mul_one']
  | n + 1 => by rw [← Nat.add_assoc, Sq.npow, Sq.npow, Sq.npow_add s m n, Sq.mul_assoc']
theorem Sq.pow_val {s : Sq} : ∀ {n : Nat}, (Sq.pow s n).2 = true → Sq.pow s n = (Sq.npow s n, true) ∧ (Sq.npow s n).ok = true
  | 0, _ => ⟨rfl, rfl⟩
  | n + 1, h => by
    rw [Sq.pow] at h ⊢
    split at h
    · rename_i hn
      rw [if_pos hn]
      obtain ⟨h1, h2⟩ := Sq.pow_val hn
      rw [h1] at h ⊢
      unfold Sq.step at h ⊢
      dsimp only at h ⊢
      split at h
      · rename_i hk
        rw [if_pos hk]
        exact ⟨rfl, hk.2.2⟩
      · cases h
    · cases h
theorem power_split {s : Sq} {e : Int} {x : Sq} (h : Sq.power s e = (x, true)) : 0 ≤ e ∧ e ≤ 100 ∧ x.ok = true ∧ ∃ y z, Sq.power s (e / 2) = (y, true) ∧ Sq.power s (e - e / 2) = (z, true) ∧ y.ok = true ∧ z.ok = true ∧ Sq.step y z = (x, true) := by
  unfold Sq.power at h
  split at h
  · rename_i hk
    obtain ⟨h1, h2, h3⟩ := hk
    have hall : ∀ m, m ≤ e.toNat → (Sq.pow s m).2 = true := by
      intro m hm
      cases hp : (Sq.pow s m).2 with
      | true => rfl
      | false => rw [Sq.pow_up hm hp] at h; simp at h
    obtain ⟨a1, a2⟩ := Sq.pow_val (hall _ (Nat.le_refl _))
    obtain ⟨b1, b2⟩ := Sq.pow_val (hall (e / 2).toNat (by omega))
    obtain ⟨c1, c2⟩ := Sq.pow_val (hall (e - e / 2).toNat (by omega))
    rw [a1] at h
    simp only [Prod.mk.injEq, and_true] at h
    subst h
    have hs : (Sq.npow s (e / 2).toNat).mul (Sq.npow s (e - e / 2).toNat) = Sq.npow s e.toNat := by
      rw [← Sq.npow_add]; congr 1; omega
    refine ⟨h2, h3, a2, _, _, ?_, ?_, b2, c2, ?_⟩
    · unfold Sq.power; rw [if_pos ⟨h1, by omega, by omega⟩, b1]
    · unfold Sq.power; rw [if_pos ⟨h1, by omega, by omega⟩, c1]
    · unfold Sq.step; rw [if_pos ⟨b2, c2, by rw [hs]; exact a2⟩, hs]
  · simp at h
theorem power_bad {s : Sq} {e : Int} {x : Sq} (h : Sq.power s e = (x, false)) : x = Sq.zero := by
  unfold Sq.power at h
  split at h
  · have := (Sq.pow_false (s := s) (n := e.toNat) (by rw [h])).1
    rw [this] at h
    simp only [Prod.mk.injEq, and_true] at h
    exact h.symm
  · simp only [Prod.mk.injEq, and_true] at h
    exact h.symm

end Go.Proofs.Ythfgfbaoeklhnaa
