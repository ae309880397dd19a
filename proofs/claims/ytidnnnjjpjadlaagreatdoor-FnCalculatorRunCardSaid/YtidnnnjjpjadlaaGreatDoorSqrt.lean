/- Square roots. No condition: contracts for the walks of the laws. -/
import Derived.Test.YtidnnnjjpjadlaaGreatDoorNum
import Derived.Test.YtidnnnjjpjadlaaGreatDoorAlive
namespace Go.Proofs.YtidnnnjjpjadlaaGreatDoor
open Go.ChangeShapes Go.WideShapes Go.ChangeAt Go.RowKit


/-- What SqrtFloor answers. -/
def SqIs (n r : Int) : Prop := (0 ≤ n ∧ n ≤ 1152921504606846976 ∧ 0 ≤ r ∧ r * r ≤ n ∧ n < (r + 1) * (r + 1)) ∨ (¬ (0 ≤ n ∧ n ≤ 1152921504606846976) ∧ r = -1)
theorem w64 {x : Int} (h1 : -9223372036854775808 ≤ x) (h2 : x ≤ 9223372036854775807) : wrap64 x = x := by
  unfold wrap64
  omega
theorem sq_mono {x y : Int} (h0 : 0 ≤ x) (h : x ≤ y) : x * x ≤ y * y := Int.mul_le_mul h h h0 (by omega)
theorem sq_lt {x y : Int} (_ : 0 ≤ x) (h : x * x < y * y) (hy : 0 ≤ y) : x < y := by
  rcases Int.lt_or_le x y with h1 | h1
  · exact h1
  · have := sq_mono hy h1; omega
theorem SqIs.only {n r s : Int} (h : SqIs n r) (h' : SqIs n s) : r = s := by
  rcases h with ⟨h1, h2, r0, r1, r2⟩ | ⟨hn, rfl⟩
  · rcases h' with ⟨-, -, s0, s1, s2⟩ | ⟨hn', -⟩
    · have e1 := sq_lt r0 (show r * r < (s + 1) * (s + 1) by omega) (by omega)
      have e2 := sq_lt s0 (show s * s < (r + 1) * (r + 1) by omega) (by omega)
      omega
    · exact absurd ⟨h1, h2⟩ hn'
  · rcases h' with ⟨h1, h2, -⟩ | ⟨-, rfl⟩
    · exact absurd ⟨h1, h2⟩ hn
    · rfl
theorem SqIs.bd {n r : Int} (h : SqIs n r) : -1 ≤ r ∧ r ≤ 1073741824 := by
  rcases h with ⟨h1, h2, r0, r1, r2⟩ | ⟨hn, rfl⟩
  · refine ⟨by omega, ?_⟩
    have := sq_lt r0 (show r * r < 1073741825 * 1073741825 by omega) (by omega)
    omega
  · omega
theorem bl_lt : ∀ (f x : Nat), x < 2 ^ f → x < 2 ^ Lib.bitLenAux f x ∧ Lib.bitLenAux f x ≤ f := by
  intro f
  induction f with
  | zero => intro x h; simp [Lib.bitLenAux]; omega
  | succ f ih =>
    intro x h
    unfold Lib.bitLenAux
    split
    · subst_vars; simp
    · have h1 := ih (x / 2) (by rw [Nat.pow_succ] at h; omega)
      refine ⟨?_, by omega⟩
      rw [Nat.add_comm, Nat.pow_succ]
      omega
theorem newton_start {n : Int} (h1 : 0 < n) (h2 : n ≤ 1152921504606846976) : ∃ (v k : Nat), Lib.bitLen n.toNat = v ∧ v ≤ 61 ∧ (v + 1) / 2 = k ∧ k ≤ 31 ∧ n < ((2 : Int) ^ k + 1) * ((2 : Int) ^ k + 1) ∧ 1 ≤ (2 : Int) ^ k ∧ (2 : Int) ^ k ≤ 2147483648 := by
  have a1 := (bl_lt 64 n.toNat (by omega)).1
  have a2 : Lib.bitLen n.toNat ≤ 61 := by
    have : ∀ f x, x < 2 ^ f → ∀ g, Lib.bitLenAux g x ≤ f := by
      intro f
      induction f with
      | zero =>
        intro x hx g
        have : x = 0 := by omega
        subst this
        cases g <;> simp [Lib.bitLenAux]
      | succ f ih =>
        intro x hx g
        cases g with
        | zero => simp [Lib.bitLenAux]
        | succ g =>
          unfold Lib.bitLenAux
          split
          · omega
          · have := ih (x / 2) (by rw [Nat.pow_succ] at hx; omega) g; omega
    exact this 61 _ (by omega) 64
  refine ⟨_, _, rfl, a2, rfl, by omega, ?_, ?_, ?_⟩
  · generalize hk : (Lib.bitLen n.toNat + 1) / 2 = k
    have e1 : n.toNat < 2 ^ (k + k) := Nat.lt_of_lt_of_le a1 (Nat.pow_le_pow_right (by omega) (by unfold Lib.bitLen at hk; omega))
    have e2 : ((2 ^ (k + k) : Nat) : Int) = (2 : Int) ^ k * (2 : Int) ^ k := by rw [Nat.pow_add, Int.natCast_mul, Int.natCast_pow]; rfl
    have e3 : (0 : Int) < (2 : Int) ^ k := Int.pow_pos (by omega)
    have e4 : ((2 : Int) ^ k + 1) * ((2 : Int) ^ k + 1) = (2 : Int) ^ k * (2 : Int) ^ k + 2 * (2 : Int) ^ k + 1 := by grind
    omega
  · have e3 : (0 : Int) < (2 : Int) ^ ((Lib.bitLen n.toNat + 1) / 2) := Int.pow_pos (by omega)
    omega
  · have e1 : (2 : Nat) ^ ((Lib.bitLen n.toNat + 1) / 2) ≤ 2 ^ 31 := Nat.pow_le_pow_right (by omega) (by omega)
    have e2 : ((2 ^ ((Lib.bitLen n.toNat + 1) / 2) : Nat) : Int) = (2 : Int) ^ ((Lib.bitLen n.toNat + 1) / 2) := by rw [Int.natCast_pow]; rfl
    omega
/-- One round of Newton's. -/
theorem newton_step {n r : Int} (hn : 0 ≤ n) (hr : 1 ≤ r) : n < ((r + n / r) / 2 + 1) * ((r + n / r) / 2 + 1) := by
  have d := ediv_bd (a := n) (show 0 < r by omega)
  have q0 : 0 ≤ n / r := Int.ediv_nonneg hn (by omega)
  generalize n / r = q at *
  have h1 : n < r * (q + 1) := by rw [Int.mul_add, Int.mul_comm r q]; omega
  have h2 : r + q + 1 ≤ 2 * ((r + q) / 2 + 1) := by omega
  generalize (r + q) / 2 + 1 = z at *
  have h3 : (r + q + 1) * (r + q + 1) ≤ (2 * z) * (2 * z) := sq_mono (by omega) h2
  have h4 : 0 ≤ (r - (q + 1)) * (r - (q + 1)) := by
    rcases Int.le_total 0 (r - (q + 1)) with h | h
    · exact Int.mul_nonneg h h
    · exact Int.mul_nonneg_of_nonpos_of_nonpos h h
  have h5 : (r + q + 1) * (r + q + 1) = (r - (q + 1)) * (r - (q + 1)) + 4 * (r * (q + 1)) := by grind
  have h6 : (2 * z) * (2 * z) = 4 * (z * z) := by grind
  omega
theorem newton_end {n r : Int} (_ : 0 ≤ n) (hr : 1 ≤ r) (h : r ≤ (r + n / r) / 2) : r * r ≤ n := by
  have d := ediv_bd (a := n) (show 0 < r by omega)
  have h1 : r ≤ n / r := by omega
  have := Int.mul_le_mul_of_nonneg_right h1 (show 0 ≤ r by omega)
  omega
set_option maxHeartbeats 1000000 in
theorem sqrt_impl (n : Int) (w : World) (hn0 : -9223372036854775808 ≤ n) (hn9 : n ≤ 9223372036854775807) : Calls Tryz.prog 99 #[.int .i64 n] w fun E w' => (∃ r, E = .returned (.int .i64 r) ∧ SqIs n r) ∧ w = w' := by
  by_cases h : 0 ≤ n ∧ n ≤ 1152921504606846976
  · obtain ⟨h1, h2⟩ := h
    by_cases hz : n = 0
    · subst hz
      have HX := Lib.hid (show SqIs 0 0 from .inl (by omega))
      go_enter Tryz.func99, Tryz.ntmps99
      go_wp2
      go_ret
      exact ⟨⟨_, rfl, HX.out⟩, rfl⟩
    · obtain ⟨v, k, hv, v1, hk, k1, hs, p1, p2⟩ := newton_start (show 0 < n by omega) h2
      have HI := Lib.hid (fun r hr he => (show SqIs n r from .inl ⟨h1, h2, hr, he⟩))
      have HS := Lib.hid hs
      clear hs
      go_enter Tryz.func99, Tryz.ntmps99
      go_wp2_with (first | (go_at_call 42; refine (bitlength_any _ _ (by omega) (by omega)).mono ?_; rintro e w' ⟨rfl, rfl⟩) | go_in)
      go_loop [3] (fun i => ∃ r : Int, i = .int .i64 r ∧ 1 ≤ r ∧ r ≤ 2147483648 ∧ Hid (n < (r + 1) * (r + 1))) (fun i => (RowKit.intOf i).toNat)
      case atStart => exact ⟨2 ^ k, by rw [hk]; exact congrArg (Value.int .i64) (w64 (by omega) (by omega)), p1, p2, HS⟩
      case round =>
        obtain ⟨r, rfl, r1, r2, HR⟩ := hrel
        clear p1 p2 hk hv
        have q0 : 0 ≤ n / r := Int.ediv_nonneg h1 (by omega)
        have q1 : n / r ≤ n := Int.ediv_le_self _ h1
        have hst := newton_step h1 r1
        have hx1 : 1 ≤ (r + n / r) / 2 := by
          rcases (by omega : (r + n / r) / 2 = 0 ∨ 1 ≤ (r + n / r) / 2) with h | h
          · rw [h] at hst; omega
          · exact h
        have HST := Lib.hid hst
        clear hst
        by_cases hx : r ≤ (r + n / r) / 2
        · have HE := Lib.hid (HI.out r (by omega) ⟨newton_end h1 r1 hx, HR.out⟩)
          go_wp2
          go_ret
          exact ⟨⟨_, rfl, HE.out⟩, rfl⟩
        · go_wp2
          go_round
          case rel => exact ⟨(r + n / r) / 2, rfl, hx1, by omega, HST⟩
          case measure => simp [RowKit.intOf]; omega
  · have HX := Lib.hid (show SqIs n (-1) from .inr ⟨h, rfl⟩)
    rcases (by omega : n < 0 ∨ (0 ≤ n ∧ 1152921504606846976 < n)) with h1 | ⟨h1, h2⟩
    all_goals
      clear h
      go_enter Tryz.func99, Tryz.ntmps99
      go_wp2
      go_ret
      exact ⟨⟨_, rfl, HX.out⟩, rfl⟩
/-- What the rounds of the reference's search hold. -/
def BiRel (n r : Int) (k : Nat) : Prop := 0 ≤ r ∧ r * r ≤ n ∧ n < (r + (2 : Int) ^ k) * (r + (2 : Int) ^ k) ∧ r ≤ 2147483648
theorem pow_bd {k : Nat} (hk : k ≤ 31) : 1 ≤ (2 : Int) ^ k ∧ (2 : Int) ^ k ≤ 2147483648 := by
  have e3 : (0 : Int) < (2 : Int) ^ k := Int.pow_pos (by omega)
  have e1 : (2 : Nat) ^ k ≤ 2 ^ 31 := Nat.pow_le_pow_right (by omega) hk
  have e2 : ((2 ^ k : Nat) : Int) = (2 : Int) ^ k := by rw [Int.natCast_pow]; rfl
  omega
theorem bi_start {n : Int} (h1 : 0 ≤ n) (h2 : n ≤ 1152921504606846976) : BiRel n 0 31 := by
  unfold BiRel
  omega
theorem bi_bd {n r : Int} {k : Nat} (hk : k ≤ 30) (h2 : n ≤ 1152921504606846976) (h : BiRel n r (k + 1)) : 0 ≤ r + (2 : Int) ^ k ∧ r + (2 : Int) ^ k ≤ 2147483648 ∧ 0 ≤ (r + (2 : Int) ^ k) * (r + (2 : Int) ^ k) ∧ (r + (2 : Int) ^ k) * (r + (2 : Int) ^ k) ≤ 4611686018427387904 := by
  obtain ⟨r0, r1, r2, r3⟩ := h
  have p := pow_bd (k := k) (by omega)
  have hr : r < 1073741825 := sq_lt r0 (show r * r < 1073741825 * 1073741825 by omega) (by omega)
  have hp : (2 : Int) ^ k ≤ 1073741824 := by
    have e1 : (2 : Nat) ^ k ≤ 2 ^ 30 := Nat.pow_le_pow_right (by omega) hk
    have e2 : ((2 ^ k : Nat) : Int) = (2 : Int) ^ k := by rw [Int.natCast_pow]; rfl
    omega
  have hx : r + (2 : Int) ^ k ≤ 2147483648 := by omega
  refine ⟨by omega, hx, Int.mul_nonneg (by omega) (by omega), ?_⟩
  have := sq_mono (show 0 ≤ r + (2 : Int) ^ k by omega) hx
  omega
theorem bi_yes {n r : Int} {k : Nat} (hk : k ≤ 30) (h2 : n ≤ 1152921504606846976) (h : BiRel n r (k + 1)) (hx : (r + (2 : Int) ^ k) * (r + (2 : Int) ^ k) ≤ n) : BiRel n (r + (2 : Int) ^ k) k := by
  have b := bi_bd hk h2 h
  obtain ⟨r0, r1, r2, r3⟩ := h
  refine ⟨by omega, hx, ?_, by omega⟩
  rw [show r + (2 : Int) ^ k + (2 : Int) ^ k = r + (2 : Int) ^ (k + 1) by rw [Int.pow_succ]; omega]
  exact r2
theorem bi_no {n r : Int} {k : Nat} (h : BiRel n r (k + 1)) (hx : n < (r + (2 : Int) ^ k) * (r + (2 : Int) ^ k)) : BiRel n r k := by
  obtain ⟨r0, r1, r2, r3⟩ := h
  exact ⟨r0, r1, hx, r3⟩
theorem bi_end {n r : Int} (h1 : 0 ≤ n) (h2 : n ≤ 1152921504606846976) (h : BiRel n r 0) : SqIs n r := by
  obtain ⟨r0, r1, r2, r3⟩ := h
  exact .inl ⟨h1, h2, r0, r1, by simpa using r2⟩
set_option maxHeartbeats 1000000 in
theorem l2sqrt_any (n : Int) (w : World) (h1 : 0 ≤ n) (h2 : n ≤ 1152921504606846976) : Calls Tryz.prog 68 #[.int .i64 n] w fun E w' => (∃ r, E = .returned (.int .i64 r) ∧ SqIs n r) ∧ w = w' := by
  have HB := Lib.hid (bi_start h1 h2)
  go_enter Tryz.func68, Tryz.ntmps68
  go_wp2
  go_loop [3, 4] (fun i j => ∃ (r : Int) (m : Nat), i = .int .i64 r ∧ j = .int .i64 ((m : Int) - 1) ∧ m ≤ 31 ∧ Hid (BiRel n r m)) (fun _ j => (RowKit.intOf j + 1).toNat)
  case atStart => exact ⟨0, 31, rfl, rfl, Nat.le_refl _, HB⟩
  case round =>
    obtain ⟨r, m, rfl, rfl, hm, HR⟩ := hrel
    rcases m with _ | m
    · have HE := Lib.hid (bi_end h1 h2 HR.out)
      go_wp2
      go_ret
      exact ⟨⟨_, rfl, HE.out⟩, rfl⟩
    · rw [show (((m + 1 : Nat) : Int) - 1) = (m : Int) by omega]
      obtain ⟨b1, b2, b3, b4⟩ := bi_bd (by omega) h2 HR.out
      obtain ⟨p1, p2⟩ := pow_bd (k := m) (by omega)
      have r0 : 0 ≤ r := HR.out.1
      have r1 : r ≤ 2147483648 := HR.out.2.2.2
      have hw : wrap64 ((2 : Int) ^ m) = (2 : Int) ^ m := w64 (by omega) (by omega)
      have HY := Lib.hid (fun h => bi_yes (by omega) h2 HR.out h)
      have HN := Lib.hid (fun h => bi_no HR.out h)
      by_cases hx : (r + (2 : Int) ^ m) * (r + (2 : Int) ^ m) ≤ n
      · have HZ := Lib.hid (HY.out hx)
        go_wp2
        go_round
        case rel => exact ⟨r + 2 ^ m, m, rfl, rfl, by omega, HZ⟩
        case measure => simp [RowKit.intOf] <;> omega
      · have HZ := Lib.hid (HN.out (by omega))
        go_wp2
        go_round
        case rel => exact ⟨r, m, rfl, rfl, by omega, HZ⟩
        case measure => simp [RowKit.intOf] <;> omega
end Go.Proofs.YtidnnnjjpjadlaaGreatDoor
