/- BothResidues. No condition: contracts for the walks of the laws. -/
import Derived.Test.YtdpekaejklmomaaMod
import Derived.Test.YtdpekaejklmomaaGcd
namespace Go.Proofs.Ytdpekaejklmomaa
open Go.ChangeShapes Go.WideShapes Go.ChangeAt Go.RowKit


theorem bezout : ∀ (n m : Nat), ∃ u v : Int, u * m + v * n = (Nat.gcd m n : Int) := by
  intro n
  induction n using Nat.strongRecOn with
  | ind n ih =>
    intro m
    rcases Nat.eq_zero_or_pos n with rfl | hn
    · exact ⟨1, 0, by simp⟩
    · obtain ⟨u, v, h⟩ := ih (m % n) (Nat.mod_lt _ hn) n
      refine ⟨v, u - v * (m / n : Nat), ?_⟩
      have e1 : (m : Int) = ((m % n : Nat) : Int) + (n : Int) * ((m / n : Nat) : Int) := by
        have := Nat.mod_add_div m n
        omega
      have e2 : Nat.gcd m n = Nat.gcd n (m % n) := by rw [Nat.gcd_comm m n, Nat.gcd_rec n m, Nat.gcd_comm]
      rw [e2, ← h]
      generalize ((m % n : Nat) : Int) = x at *
      generalize ((m / n : Nat) : Int) = y at *
      rw [e1]
      grind
/-- Both residues can be met. -/
theorem crt {m n : Int} (a b : Int) (hm : 1 ≤ m) (hn : 1 ≤ n) (hg : Int.gcd m n = 1) : ∃ k : Nat, (k : Int) < n ∧ n ∣ a + m * k - b := by
  obtain ⟨u, v, h⟩ := bezout n.natAbs m.natAbs
  have e1 : ((m.natAbs : Nat) : Int) = m := by omega
  have e2 : ((n.natAbs : Nat) : Int) = n := by omega
  have e3 : (Nat.gcd m.natAbs n.natAbs : Int) = 1 := by show ((Int.gcd m n : Nat) : Int) = 1; rw [hg]; rfl
  rw [e1, e2, e3] at h
  have k0 := emod_bd ((b - a) * u) hn
  refine ⟨((b - a) * u % n).toNat, by omega, ?_⟩
  rw [Int.toNat_of_nonneg k0.1, Int.emod_def]
  exact ⟨-((b - a) * v) - m * ((b - a) * u / n), by grind⟩
theorem dvd_emod {x b n : Int} (_ : 1 ≤ n) (h0 : 0 ≤ b) (h1 : b < n) (h : n ∣ x - b) : x % n = b := by
  obtain ⟨k, hk⟩ := h
  have e : x = b + n * k := by omega
  rw [e, Int.add_mul_emod_self_left, Int.emod_eq_of_lt h0 h1]
/-- The first number of a's row that leaves b. -/
def FirstK (a m b n : Int) (k : Nat) : Prop := (a + m * k) % n = b ∧ ∀ j : Nat, j < k → (a + m * j) % n ≠ b
theorem firstK_only {a m b n : Int} {k k' : Nat} (h : FirstK a m b n k) (h' : FirstK a m b n k') : k = k' := by
  rcases Nat.lt_trichotomy k k' with hl | hl | hl
  · exact absurd h.1 (h'.2 k hl)
  · exact hl
  · exact absurd h'.1 (h.2 k' hl)
theorem firstK_some {a m b n : Int} : ∀ K : Nat, (a + m * K) % n = b → ∃ k, k ≤ K ∧ FirstK a m b n k := by
  intro K
  induction K using Nat.strongRecOn with
  | ind K ih =>
    intro h
    by_cases hj : ∃ j, j < K ∧ (a + m * j) % n = b
    · obtain ⟨j, hj, hb⟩ := hj
      obtain ⟨k, hk, hf⟩ := ih j hj hb
      exact ⟨k, by omega, hf⟩
    · exact ⟨K, Nat.le_refl _, h, fun j hj' he => hj ⟨j, hj', he⟩⟩
def brOk (a m b n : Int) : Prop := 1 ≤ m ∧ m ≤ 1000 ∧ 1 ≤ n ∧ n ≤ 1000 ∧ 0 ≤ a ∧ a < m ∧ 0 ≤ b ∧ b < n ∧ Int.gcd m n = 1
def BrIs (a m b n x : Int) : Prop := (brOk a m b n ∧ ∃ k : Nat, (k : Int) < n ∧ FirstK a m b n k ∧ x = a + m * k) ∨ (¬ brOk a m b n ∧ x = -1)
theorem BrIs.only {a m b n x y : Int} (h : BrIs a m b n x) (h' : BrIs a m b n y) : x = y := by
  rcases h with ⟨h, k, -, hf, rfl⟩ | ⟨hn, rfl⟩
  · rcases h' with ⟨-, k', -, hf', rfl⟩ | ⟨hn', -⟩
    · rw [firstK_only hf hf']
    · exact absurd h hn'
  · rcases h' with ⟨h, -⟩ | ⟨-, rfl⟩
    · exact absurd h hn
    · rfl
theorem br_k {a m b n : Int} (h : brOk a m b n) : ∃ k : Nat, (k : Int) < n ∧ FirstK a m b n k := by
  obtain ⟨h1, h2, h3, h4, h5, h6, h7, h8, h9⟩ := h
  obtain ⟨K, hK, hd⟩ := crt a b h1 h3 h9
  obtain ⟨k, hk, hf⟩ := firstK_some (a := a) (m := m) (b := b) (n := n) K (dvd_emod h3 h7 h8 hd)
  exact ⟨k, by omega, hf⟩

set_option maxHeartbeats 1000000 in
theorem br_impl (a m b n : Int) (w : World) : Calls Try.prog 24 #[.int .i64 a, .int .i64 m, .int .i64 b, .int .i64 n] w fun E w' => (∃ x, E = .returned (.int .i64 x) ∧ BrIs a m b n x) ∧ ∃ n, w' = w.drewN n := by
  by_cases h : brOk a m b n
  · obtain ⟨K, hK, hF⟩ := br_k h
    have HI := Lib.hid (fun x hx => (show BrIs a m b n x from .inl ⟨h, K, hK, hF, hx⟩))
    obtain ⟨h1, h2, h3, h4, h5, h6, h7, h8, h9⟩ := h
    have hg := gcdOf_in (a := m) (b := n) (by unfold gcdOk; omega)
    rw [h9] at hg
    have HF := Lib.hid hF
    clear hF
    have mk : 0 ≤ m * K ∧ m * K ≤ 1000000 := ⟨Int.mul_nonneg (by omega) (by omega), by have := Int.mul_le_mul h2 (show (K : Int) ≤ 1000 by omega) (by omega) (by omega); omega⟩
    go_enter Try.func24, Try.ntmps24
    go_wp2_with (first | (go_at_call 22; refine (gcd_impl _ _ _).mono ?_; rintro e w' ⟨rfl, mm, rfl⟩) | go_in)
    go_loopw [9] (fun i wr => ∃ j q : Nat, i = .int .i64 (a + m * j) ∧ wr = w.drewN q ∧ j ≤ K) (fun i _ => (a + m * K - RowKit.intOf i).toNat)
    case atStart => exact ⟨0, _, by simp, rfl, Nat.zero_le _⟩
    case round =>
      obtain ⟨j, q, rfl, rfl, hj⟩ := hrel
      have mj : 0 ≤ m * j := Int.mul_nonneg (by omega) (by omega)
      have mj' : m * j ≤ m * K := Int.mul_le_mul_of_nonneg_left (by omega) (by omega)
      rcases Nat.lt_or_ge j K with hlt | hge
      · have hne := HF.out.2 j hlt
        have e1 : a + m * j + m = a + m * ((j + 1 : Nat) : Int) := by rw [Int.natCast_add, Int.mul_add]; omega
        have mj2 : m * ((j + 1 : Nat) : Int) ≤ m * K := Int.mul_le_mul_of_nonneg_left (by omega) (by omega)
        have HE := Lib.hid e1
        have HM := Lib.hid mj2
        clear e1 mj2
        go_wp2
        go_roundw
        case rel => exact ⟨j + 1, q, by rw [← HE.out], rfl, by omega⟩
        case measure =>
          have e1 := HE.out
          have e2 := HM.out
          simp [RowKit.intOf]
          omega
      · have e : j = K := by omega
        subst e
        have heq := HF.out.1
        go_wp2
        go_ret
        exact ⟨⟨_, rfl, HI.out _ rfl⟩, q, rfl⟩
  · have HN := Lib.hid (show BrIs a m b n (-1) from .inr ⟨h, rfl⟩)
    unfold brOk at h
    by_cases hb : 1 ≤ m ∧ m ≤ 1000 ∧ 1 ≤ n ∧ n ≤ 1000 ∧ 0 ≤ a ∧ a < m ∧ 0 ≤ b ∧ b < n
    · obtain ⟨h1, h2, h3, h4, h5, h6, h7, h8⟩ := hb
      have hg := gcdOf_in (a := m) (b := n) (by unfold gcdOk; omega)
      have hg' : gcdOf m n ≠ 1 := by omega
      have hb' : (gcdOf m n != 1) = true := by simpa using hg'
      clear hg h
      go_enter Try.func24, Try.ntmps24
      go_wp2_with (first | (go_at_call 22; refine (gcd_impl _ _ _).mono ?_; rintro e w' ⟨rfl, mm, rfl⟩) | go_in)
      go_ret
      exact ⟨⟨_, rfl, HN.out⟩, _, rfl⟩
    · clear h
      rcases (by omega : m < 1 ∨ (1 ≤ m ∧ 1000 < m) ∨ (1 ≤ m ∧ m ≤ 1000 ∧ n < 1) ∨ (1 ≤ m ∧ m ≤ 1000 ∧ 1 ≤ n ∧ 1000 < n) ∨ (1 ≤ m ∧ m ≤ 1000 ∧ 1 ≤ n ∧ n ≤ 1000 ∧ a < 0) ∨ (1 ≤ m ∧ m ≤ 1000 ∧ 1 ≤ n ∧ n ≤ 1000 ∧ 0 ≤ a ∧ m ≤ a) ∨ (1 ≤ m ∧ m ≤ 1000 ∧ 1 ≤ n ∧ n ≤ 1000 ∧ 0 ≤ a ∧ a < m ∧ b < 0) ∨ (1 ≤ m ∧ m ≤ 1000 ∧ 1 ≤ n ∧ n ≤ 1000 ∧ 0 ≤ a ∧ a < m ∧ 0 ≤ b ∧ n ≤ b)) with h1 | ⟨h1, h2⟩ | ⟨h1, h2, h3⟩ | ⟨h1, h2, h3, h4⟩ | ⟨h1, h2, h3, h4, h5⟩ | ⟨h1, h2, h3, h4, h5, h6⟩ | ⟨h1, h2, h3, h4, h5, h6, h7⟩ | ⟨h1, h2, h3, h4, h5, h6, h7, h8⟩
      all_goals
        clear hb
        have hb2 : (gcdOf m n != 1) = true ∨ (gcdOf m n != 1) = false := by cases (gcdOf m n != 1) <;> simp
        rcases hb2 with hb2 | hb2
        all_goals
          go_enter Try.func24, Try.ntmps24
          go_wp2_with (first | (go_at_call 22; refine (gcd_impl _ _ _).mono ?_; rintro e w' ⟨rfl, mm, rfl⟩) | go_in)
          go_ret
          exact ⟨⟨_, rfl, HN.out⟩, by first | exact ⟨_, rfl⟩ | exact ⟨0, rfl⟩⟩

set_option maxHeartbeats 1000000 in
theorem br_spec (a m b n : Int) (w : World) : Calls Try.prog 23 #[.int .i64 a, .int .i64 m, .int .i64 b, .int .i64 n] w fun E w' => (∃ x, E = .returned (.int .i64 x) ∧ BrIs a m b n x) ∧ ∃ n, w' = w.drewN n := by
  by_cases h : brOk a m b n
  · obtain ⟨K, hK, hF⟩ := br_k h
    have HI := Lib.hid (fun x hx => (show BrIs a m b n x from .inl ⟨h, K, hK, hF, hx⟩))
    obtain ⟨h1, h2, h3, h4, h5, h6, h7, h8, h9⟩ := h
    have hg := gcdOf_in (a := m) (b := n) (by unfold gcdOk; omega)
    rw [h9] at hg
    have HF := Lib.hid hF
    clear hF
    have mk : 0 ≤ m * K ∧ m * K ≤ 1000000 := ⟨Int.mul_nonneg (by omega) (by omega), by have := Int.mul_le_mul h2 (show (K : Int) ≤ 1000 by omega) (by omega) (by omega); omega⟩
    go_enter Try.func23, Try.ntmps23
    go_wp2_with (first | (go_at_call 46; refine (l1in_yes _ _ _ _ (by omega) (by omega)).mono ?_; rintro e w' ⟨rfl, rfl⟩) | (go_at_call 46; refine (l1in_no _ _ _ _ (by omega)).mono ?_; rintro e w' ⟨rfl, rfl⟩) | (go_at_call 51; refine (gcd_spec _ _ _).mono ?_; rintro e w' ⟨rfl, mm, rfl⟩) | go_in)
    go_loopw [9] (fun i wr => ∃ j q : Nat, i = .int .i64 (a + m * j) ∧ wr = w.drewN q ∧ j ≤ K) (fun i _ => (a + m * K - RowKit.intOf i).toNat)
    case atStart => exact ⟨0, _, by simp, rfl, Nat.zero_le _⟩
    case round =>
      obtain ⟨j, q, rfl, rfl, hj⟩ := hrel
      have mj : 0 ≤ m * j := Int.mul_nonneg (by omega) (by omega)
      have mj' : m * j ≤ m * K := Int.mul_le_mul_of_nonneg_left (by omega) (by omega)
      rcases Nat.lt_or_ge j K with hlt | hge
      · have hne := HF.out.2 j hlt
        have e1 : a + m * j + m = a + m * ((j + 1 : Nat) : Int) := by rw [Int.natCast_add, Int.mul_add]; omega
        have mj2 : m * ((j + 1 : Nat) : Int) ≤ m * K := Int.mul_le_mul_of_nonneg_left (by omega) (by omega)
        have HE := Lib.hid e1
        have HM := Lib.hid mj2
        clear e1 mj2
        go_wp2
        go_roundw
        case rel => exact ⟨j + 1, q, by rw [← HE.out], rfl, by omega⟩
        case measure =>
          have e1 := HE.out
          have e2 := HM.out
          simp [RowKit.intOf]
          omega
      · have e : j = K := by omega
        subst e
        have heq := HF.out.1
        go_wp2
        go_ret
        exact ⟨⟨_, rfl, HI.out _ rfl⟩, q, rfl⟩
  · have HN := Lib.hid (show BrIs a m b n (-1) from .inr ⟨h, rfl⟩)
    unfold brOk at h
    by_cases hb : 1 ≤ m ∧ m ≤ 1000 ∧ 1 ≤ n ∧ n ≤ 1000 ∧ 0 ≤ a ∧ a < m ∧ 0 ≤ b ∧ b < n
    · obtain ⟨h1, h2, h3, h4, h5, h6, h7, h8⟩ := hb
      have hg := gcdOf_in (a := m) (b := n) (by unfold gcdOk; omega)
      have hg' : gcdOf m n ≠ 1 := by omega
      have hb' : (gcdOf m n != 1) = true := by simpa using hg'
      clear hg h
      go_enter Try.func23, Try.ntmps23
      go_wp2_with (first | (go_at_call 46; refine (l1in_yes _ _ _ _ (by omega) (by omega)).mono ?_; rintro e w' ⟨rfl, rfl⟩) | (go_at_call 46; refine (l1in_no _ _ _ _ (by omega)).mono ?_; rintro e w' ⟨rfl, rfl⟩) | (go_at_call 51; refine (gcd_spec _ _ _).mono ?_; rintro e w' ⟨rfl, mm, rfl⟩) | go_in)
      go_ret
      exact ⟨⟨_, rfl, HN.out⟩, _, rfl⟩
    · clear h
      rcases (by omega : m < 1 ∨ (1 ≤ m ∧ 1000 < m) ∨ (1 ≤ m ∧ m ≤ 1000 ∧ n < 1) ∨ (1 ≤ m ∧ m ≤ 1000 ∧ 1 ≤ n ∧ 1000 < n) ∨ (1 ≤ m ∧ m ≤ 1000 ∧ 1 ≤ n ∧ n ≤ 1000 ∧ a < 0) ∨ (1 ≤ m ∧ m ≤ 1000 ∧ 1 ≤ n ∧ n ≤ 1000 ∧ 0 ≤ a ∧ m ≤ a) ∨ (1 ≤ m ∧ m ≤ 1000 ∧ 1 ≤ n ∧ n ≤ 1000 ∧ 0 ≤ a ∧ a < m ∧ b < 0) ∨ (1 ≤ m ∧ m ≤ 1000 ∧ 1 ≤ n ∧ n ≤ 1000 ∧ 0 ≤ a ∧ a < m ∧ 0 ≤ b ∧ n ≤ b)) with h1 | ⟨h1, h2⟩ | ⟨h1, h2, h3⟩ | ⟨h1, h2, h3, h4⟩ | ⟨h1, h2, h3, h4, h5⟩ | ⟨h1, h2, h3, h4, h5, h6⟩ | ⟨h1, h2, h3, h4, h5, h6, h7⟩ | ⟨h1, h2, h3, h4, h5, h6, h7, h8⟩
      all_goals
        clear hb
        have hb2 : (gcdOf m n != 1) = true ∨ (gcdOf m n != 1) = false := by cases (gcdOf m n != 1) <;> simp
        rcases hb2 with hb2 | hb2
        all_goals
          go_enter Try.func23, Try.ntmps23
          go_wp2_with (first | (go_at_call 46; refine (l1in_yes _ _ _ _ (by omega) (by omega)).mono ?_; rintro e w' ⟨rfl, rfl⟩) | (go_at_call 46; refine (l1in_no _ _ _ _ (by omega)).mono ?_; rintro e w' ⟨rfl, rfl⟩) | (go_at_call 51; refine (gcd_spec _ _ _).mono ?_; rintro e w' ⟨rfl, mm, rfl⟩) | go_in)
          go_ret
          exact ⟨⟨_, rfl, HN.out⟩, by first | exact ⟨_, rfl⟩ | exact ⟨0, rfl⟩⟩

end Go.Proofs.Ytdpekaejklmomaa
