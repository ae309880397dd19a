/- Lines in two parts: a run over both, one behind the other, is the run over all. No condition: plain laws. -/
import Derived.Test.YtidnnnjjpjadlaaGreatDoorRunI
import Derived.Test.YtidnnnjjpjadlaaGreatDoorLnF
namespace Go.Proofs.YtidnnnjjpjadlaaGreatDoor

theorem runL_append : ∀ (l1 l2 : List ByteArray) (c : CV), runL c (l1 ++ l2) = ((runL (runL c l1).1 l2).1, (runL c l1).2 ++ (runL (runL c l1).1 l2).2)
  | [], l2, c => by simp [runL]
  | s :: l1, l2, c => by simp only [List.cons_append, runL, runL_append l1 l2]
theorem runL_fit : ∀ (l : List ByteArray) (c : CV), fitB c.p c.q c.n = true → fitB (runL c l).1.p (runL c l).1.q (runL c l).1.n = true
  | [], c, h => h
  | s :: l, c, h => by
    simp only [runL]
    apply runL_fit l
    rcases ln_cases c.p c.q c.n c.x s h with ⟨t, -, e⟩ | ⟨P, Q, N, X, e, hf, -⟩
    · rw [e]; exact h
    · rw [e]; exact hf
theorem runO_len (p q n : Int) (x : Bool) (xs : List ByteArray) : (runO p q n x xs).2.length ≤ xs.length := by
  unfold runO
  split
  · simp
  · rw [runL_len]; exact Nat.le_refl _
theorem runO_ok {p q n : Int} {x : Bool} {xs : List ByteArray} (h : fitB p q n = true) (hl : xs.length ≤ 40) : runO p q n x xs = runL ⟨p, q, n, x⟩ xs := by
  unfold runO
  rw [if_neg (by rw [h]; simp; omega)]
theorem runO_bad {p q n : Int} {x : Bool} {xs : List ByteArray} (h : fitB p q n = false ∨ 40 < xs.length) : runO p q n x xs = (⟨0, 0, 0, false⟩, []) := by
  unfold runO
  rw [if_pos h]
/-- Two parts of the lines lead to the same calculator, with all answers. -/
theorem run_split {p q n : Int} {x : Bool} {xs : List ByteArray} (h : fitB p q n = true) (hl : xs.length ≤ 40) (k : Nat) (hk : k ≤ xs.length) :
    ∃ (p1 q1 n1 : Int) (x1 : Bool) (p2 q2 n2 : Int) (x2 : Bool) (f s : List ByteArray), runO p q n x (xs.take k) = (⟨p1, q1, n1, x1⟩, f) ∧ runO p1 q1 n1 x1 (xs.drop k) = (⟨p2, q2, n2, x2⟩, s) ∧
      runO p q n x xs = (⟨p2, q2, n2, x2⟩, f ++ s) ∧ f.length = k ∧ s.length = xs.length - k := by
  have hf := runL_fit (xs.take k) ⟨p, q, n, x⟩ h
  have e := runL_append (xs.take k) (xs.drop k) ⟨p, q, n, x⟩
  have l1 := runL_len (xs.take k) ⟨p, q, n, x⟩
  rw [List.take_append_drop] at e
  generalize hc : runL ⟨p, q, n, x⟩ (xs.take k) = c at *
  obtain ⟨⟨p1, q1, n1, x1⟩, f⟩ := c
  have l2 := runL_len (xs.drop k) ⟨p1, q1, n1, x1⟩
  dsimp only at e hf l1
  generalize hd : runL ⟨p1, q1, n1, x1⟩ (xs.drop k) = d at *
  obtain ⟨⟨p2, q2, n2, x2⟩, s⟩ := d
  dsimp only at e l2
  refine ⟨p1, q1, n1, x1, p2, q2, n2, x2, f, s, ?_, ?_, ?_, ?_, ?_⟩
  · rw [runO_ok h (by simp; omega), hc]
  · rw [runO_ok hf (by simp; omega), hd]
  · rw [runO_ok h hl, e]
  · rw [l1]; simp; omega
  · rw [l2]; simp
end Go.Proofs.YtidnnnjjpjadlaaGreatDoor
