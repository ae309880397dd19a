/- Powers of 2 by spans: what both functions reckon. No condition: plain laws. -/
import Derived.Test.YtidnnnjjpjadlaaGreatDoorMj
namespace Go.Proofs.YtidnnnjjpjadlaaGreatDoor
open Go.ChangeShapes Go.WideShapes Go.ChangeAt Go.RowKit

noncomputable def ssL (n : Int) : Int := isq (n * 268435456)
noncomputable def ssH (n : Int) : Int := if isq (n * 268435456) * isq (n * 268435456) < n * 268435456 then isq (n * 268435456) + 1 else isq (n * 268435456)
noncomputable def rtL : Nat → Int
  | 0 => 536870912
  | k + 1 => ssL (rtL k)
noncomputable def rtH : Nat → Int
  | 0 => 536870912
  | k + 1 => ssH (rtH k)
noncomputable def tpL (x : Int) : Nat → Int
  | 0 => 268435456
  | k + 1 => if x / 2 ^ (16 - (k + 1)) % 2 = 1 then tpL x k * rtL (k + 1) / 268435456 else tpL x k
noncomputable def tpH (x : Int) : Nat → Int
  | 0 => 268435456
  | k + 1 => if x / 2 ^ (16 - (k + 1)) % 2 = 1 then -(-(tpH x k * rtH (k + 1)) / 268435456) else tpH x k
theorem rtH_succ (k : Nat) : rtH (k + 1) = ssH (rtH k) := rfl
theorem rtL_succ (k : Nat) : rtL (k + 1) = ssL (rtL k) := rfl
theorem ssH_up {n h : Int} (hs : SqIs (n * 268435456) h) (hl : h * h < n * 268435456) : ssH n = h + 1 := by
  unfold ssH; rw [← isq_eq hs, if_pos hl]
theorem ssH_eq {n h : Int} (hs : SqIs (n * 268435456) h) (hl : ¬ h * h < n * 268435456) : ssH n = h := by
  unfold ssH; rw [← isq_eq hs, if_neg hl]
theorem sq_ex {n : Int} (h1 : 0 ≤ n) (h2 : n ≤ 1152921504606846976) : SqIs n (isq n) := by
  have : ∃ r, SqIs n r := by
    have key : ∀ k : Nat, ∃ r : Nat, r * r ≤ k ∧ k < (r + 1) * (r + 1) := by
      intro k
      induction k with
      | zero => exact ⟨0, by decide, by decide⟩
      | succ k ih =>
        obtain ⟨r, a, b⟩ := ih
        rcases Nat.lt_or_ge (k + 1) ((r + 1) * (r + 1)) with h | h
        · exact ⟨r, by omega, h⟩
        · exact ⟨r + 1, h, by
            have e1 : (r + 1 + 1) * (r + 1 + 1) = (r + 1) * (r + 1) + 2 * (r + 1) + 1 := by grind
            omega⟩
    obtain ⟨r, a, b⟩ := key n.toNat
    refine ⟨(r : Int), .inl ⟨h1, h2, by omega, ?_, ?_⟩⟩
    · have : ((r * r : Nat) : Int) ≤ ((n.toNat : Nat) : Int) := Int.ofNat_le.2 a
      rw [Int.natCast_mul] at this; omega
    · have : ((n.toNat : Nat) : Int) < (((r + 1) * (r + 1) : Nat) : Int) := Int.ofNat_lt.2 b
      rw [Int.natCast_mul, Int.natCast_add] at this; simp at this; omega
  exact Classical.epsilon_spec this
/-- What a span's root is between. -/
theorem ss_bd {lo hi : Int} (h1 : 268435456 ≤ lo) (h2 : lo ≤ hi) (h3 : hi ≤ 536870912) : 268435456 ≤ ssL lo ∧ ssL lo ≤ ssH hi ∧ ssH hi ≤ 536870912 := by
  have s1 := sq_ex (n := lo * 268435456) (by omega) (by omega)
  have s2 := sq_ex (n := hi * 268435456) (by omega) (by omega)
  unfold ssL ssH
  generalize isq (lo * 268435456) = a at *
  generalize isq (hi * 268435456) = b at *
  rcases s1 with ⟨-, -, a0, a1, a2⟩ | ⟨h, -⟩
  · rcases s2 with ⟨-, -, b0, b1, b2⟩ | ⟨h, -⟩
    · have e1 : 268435456 ≤ a := by
        have := sq_lt (x := 268435455) (y := a + 1) (by omega) (by omega) (by omega)
        rcases Int.lt_or_le a 268435456 with h | h
        · have : a + 1 ≤ 268435456 := by omega
          have := sq_mono (x := a + 1) (y := 268435456) (by omega) this
          omega
        · exact h
      have e2 : a ≤ b := by
        have := sq_lt (x := a) (y := b + 1) a0 (by omega) (by omega)
        omega
      have e3 : b ≤ 379625062 := by
        have := sq_lt (x := b) (y := 379625063) b0 (by omega) (by omega)
        omega
      refine ⟨e1, ?_, ?_⟩ <;> split <;> omega
    · exact absurd ⟨by omega, by omega⟩ h
  · exact absurd ⟨by omega, by omega⟩ h
theorem rt_bd : ∀ k, 268435456 ≤ rtL k ∧ rtL k ≤ rtH k ∧ rtH k ≤ 536870912
  | 0 => by decide
  | k + 1 => by
    obtain ⟨h1, h2, h3⟩ := rt_bd k
    exact ss_bd h1 h2 h3
theorem rtH_0 : rtH 0 = 536870912 := rfl
theorem tpH_0 (x : Int) : tpH x 0 ≤ 268435456 := Int.le_refl _
theorem rtH_1 : rtH 1 = 379625063 := by
  rw [rtH_succ, rtH_0]
  exact ssH_up (h := 379625062) (.inl (by decide)) (by decide)
theorem tpH_1 (x : Int) : tpH x 1 ≤ 379625063 := by
  have h := tpH_0 x
  have e : tpH x 1 = if x / 2 ^ (16 - 1) % 2 = 1 then -(-(tpH x 0 * rtH 1) / 268435456) else tpH x 0 := rfl
  rw [e, rtH_1]
  split <;> omega
theorem rtH_2 : rtH 2 = 319225355 := by
  rw [rtH_succ, rtH_1]
  exact ssH_up (h := 319225354) (.inl (by decide)) (by decide)
theorem tpH_2 (x : Int) : tpH x 2 ≤ 451452828 := by
  have h := tpH_1 x
  have e : tpH x 2 = if x / 2 ^ (16 - 2) % 2 = 1 then -(-(tpH x 1 * rtH 2) / 268435456) else tpH x 1 := rfl
  rw [e, rtH_2]
  split <;> omega
theorem rtH_3 : rtH 3 = 292730941 := by
  rw [rtH_succ, rtH_2]
  exact ssH_up (h := 292730940) (.inl (by decide)) (by decide)
theorem tpH_3 (x : Int) : tpH x 3 ≤ 492312801 := by
  have h := tpH_2 x
  have e : tpH x 3 = if x / 2 ^ (16 - 3) % 2 = 1 then -(-(tpH x 2 * rtH 3) / 268435456) else tpH x 2 := rfl
  rw [e, rtH_3]
  split <;> omega
theorem rtH_4 : rtH 4 = 280320110 := by
  rw [rtH_succ, rtH_3]
  exact ssH_up (h := 280320109) (.inl (by decide)) (by decide)
theorem tpH_4 (x : Int) : tpH x 4 ≤ 514109353 := by
  have h := tpH_3 x
  have e : tpH x 4 = if x / 2 ^ (16 - 4) % 2 = 1 then -(-(tpH x 3 * rtH 4) / 268435456) else tpH x 3 := rfl
  rw [e, rtH_4]
  split <;> omega
theorem rtH_5 : rtH 5 = 274313428 := by
  rw [rtH_succ, rtH_4]
  exact ssH_up (h := 274313427) (.inl (by decide)) (by decide)
theorem tpH_5 (x : Int) : tpH x 5 ≤ 525366884 := by
  have h := tpH_4 x
  have e : tpH x 5 = if x / 2 ^ (16 - 5) % 2 = 1 then -(-(tpH x 4 * rtH 5) / 268435456) else tpH x 4 := rfl
  rw [e, rtH_5]
  split <;> omega
theorem rtH_6 : rtH 6 = 271358527 := by
  rw [rtH_succ, rtH_5]
  exact ssH_up (h := 271358526) (.inl (by decide)) (by decide)
theorem tpH_6 (x : Int) : tpH x 6 ≤ 531087756 := by
  have h := tpH_5 x
  have e : tpH x 6 = if x / 2 ^ (16 - 6) % 2 = 1 then -(-(tpH x 5 * rtH 6) / 268435456) else tpH x 5 := rfl
  rw [e, rtH_6]
  split <;> omega
theorem rtH_7 : rtH 7 = 269893035 := by
  rw [rtH_succ, rtH_6]
  exact ssH_up (h := 269893034) (.inl (by decide)) (by decide)
theorem tpH_7 (x : Int) : tpH x 7 ≤ 533971513 := by
  have h := tpH_6 x
  have e : tpH x 7 = if x / 2 ^ (16 - 7) % 2 = 1 then -(-(tpH x 6 * rtH 7) / 268435456) else tpH x 6 := rfl
  rw [e, rtH_7]
  split <;> omega
theorem rtH_8 : rtH 8 = 269163259 := by
  rw [rtH_succ, rtH_7]
  exact ssH_up (h := 269163258) (.inl (by decide)) (by decide)
theorem tpH_8 (x : Int) : tpH x 8 ≤ 535419258 := by
  have h := tpH_7 x
  have e : tpH x 8 = if x / 2 ^ (16 - 8) % 2 = 1 then -(-(tpH x 7 * rtH 8) / 268435456) else tpH x 7 := rfl
  rw [e, rtH_8]
  split <;> omega
theorem rtH_9 : rtH 9 = 268799112 := by
  rw [rtH_succ, rtH_8]
  exact ssH_up (h := 268799111) (.inl (by decide)) (by decide)
theorem tpH_9 (x : Int) : tpH x 9 ≤ 536144604 := by
  have h := tpH_8 x
  have e : tpH x 9 = if x / 2 ^ (16 - 9) % 2 = 1 then -(-(tpH x 8 * rtH 9) / 268435456) else tpH x 8 := rfl
  rw [e, rtH_9]
  split <;> omega
theorem rtH_10 : rtH 10 = 268617223 := by
  rw [rtH_succ, rtH_9]
  exact ssH_up (h := 268617222) (.inl (by decide)) (by decide)
theorem tpH_10 (x : Int) : tpH x 10 ≤ 536507647 := by
  have h := tpH_9 x
  have e : tpH x 10 = if x / 2 ^ (16 - 10) % 2 = 1 then -(-(tpH x 9 * rtH 10) / 268435456) else tpH x 9 := rfl
  rw [e, rtH_10]
  split <;> omega
theorem rtH_11 : rtH 11 = 268526325 := by
  rw [rtH_succ, rtH_10]
  exact ssH_up (h := 268526324) (.inl (by decide)) (by decide)
theorem tpH_11 (x : Int) : tpH x 11 ≤ 536689263 := by
  have h := tpH_10 x
  have e : tpH x 11 = if x / 2 ^ (16 - 11) % 2 = 1 then -(-(tpH x 10 * rtH 11) / 268435456) else tpH x 10 := rfl
  rw [e, rtH_11]
  split <;> omega
theorem rtH_12 : rtH 12 = 268480887 := by
  rw [rtH_succ, rtH_11]
  exact ssH_up (h := 268480886) (.inl (by decide)) (by decide)
theorem tpH_12 (x : Int) : tpH x 12 ≤ 536780095 := by
  have h := tpH_11 x
  have e : tpH x 12 = if x / 2 ^ (16 - 12) % 2 = 1 then -(-(tpH x 11 * rtH 12) / 268435456) else tpH x 11 := rfl
  rw [e, rtH_12]
  split <;> omega
theorem rtH_13 : rtH 13 = 268458171 := by
  rw [rtH_succ, rtH_12]
  exact ssH_up (h := 268458170) (.inl (by decide)) (by decide)
theorem tpH_13 (x : Int) : tpH x 13 ≤ 536825518 := by
  have h := tpH_12 x
  have e : tpH x 13 = if x / 2 ^ (16 - 13) % 2 = 1 then -(-(tpH x 12 * rtH 13) / 268435456) else tpH x 12 := rfl
  rw [e, rtH_13]
  split <;> omega
theorem rtH_14 : rtH 14 = 268446814 := by
  rw [rtH_succ, rtH_13]
  exact ssH_up (h := 268446813) (.inl (by decide)) (by decide)
theorem tpH_14 (x : Int) : tpH x 14 ≤ 536848233 := by
  have h := tpH_13 x
  have e : tpH x 14 = if x / 2 ^ (16 - 14) % 2 = 1 then -(-(tpH x 13 * rtH 14) / 268435456) else tpH x 13 := rfl
  rw [e, rtH_14]
  split <;> omega
theorem rtH_15 : rtH 15 = 268441135 := by
  rw [rtH_succ, rtH_14]
  exact ssH_up (h := 268441134) (.inl (by decide)) (by decide)
theorem tpH_15 (x : Int) : tpH x 15 ≤ 536859591 := by
  have h := tpH_14 x
  have e : tpH x 15 = if x / 2 ^ (16 - 15) % 2 = 1 then -(-(tpH x 14 * rtH 15) / 268435456) else tpH x 14 := rfl
  rw [e, rtH_15]
  split <;> omega
theorem rtH_16 : rtH 16 = 268438296 := by
  rw [rtH_succ, rtH_15]
  exact ssH_up (h := 268438295) (.inl (by decide)) (by decide)
theorem tpH_16 (x : Int) : tpH x 16 ≤ 536865271 := by
  have h := tpH_15 x
  have e : tpH x 16 = if x / 2 ^ (16 - 16) % 2 = 1 then -(-(tpH x 15 * rtH 16) / 268435456) else tpH x 15 := rfl
  rw [e, rtH_16]
  split <;> omega
theorem tpH_le (x : Int) {k : Nat} (hk : k ≤ 16) : tpH x k ≤ 536870912 := by
  rcases (by omega : k = 0 ∨ k = 1 ∨ k = 2 ∨ k = 3 ∨ k = 4 ∨ k = 5 ∨ k = 6 ∨ k = 7 ∨ k = 8 ∨ k = 9 ∨ k = 10 ∨ k = 11 ∨ k = 12 ∨ k = 13 ∨ k = 14 ∨ k = 15 ∨ k = 16) with rfl | rfl | rfl | rfl | rfl | rfl | rfl | rfl | rfl | rfl | rfl | rfl | rfl | rfl | rfl | rfl | rfl
  · have := tpH_0 x; omega
  · have := tpH_1 x; omega
  · have := tpH_2 x; omega
  · have := tpH_3 x; omega
  · have := tpH_4 x; omega
  · have := tpH_5 x; omega
  · have := tpH_6 x; omega
  · have := tpH_7 x; omega
  · have := tpH_8 x; omega
  · have := tpH_9 x; omega
  · have := tpH_10 x; omega
  · have := tpH_11 x; omega
  · have := tpH_12 x; omega
  · have := tpH_13 x; omega
  · have := tpH_14 x; omega
  · have := tpH_15 x; omega
  · have := tpH_16 x; omega
theorem mul_ge {a b c d : Int} (h1 : 0 ≤ a) (h2 : a ≤ b) (h3 : 0 ≤ c) (h4 : c ≤ d) : a * c ≤ b * d := Int.mul_le_mul h2 h4 h3 (by omega)
theorem tpL_le (x : Int) : ∀ k, 268435456 ≤ tpL x k ∧ tpL x k ≤ tpH x k
  | 0 => ⟨Int.le_refl _, Int.le_refl _⟩
  | k + 1 => by
    obtain ⟨h1, h2⟩ := tpL_le x k
    obtain ⟨r1, r2, -⟩ := rt_bd (k + 1)
    have e1 := mul_ge (a := 268435456) (c := 268435456) (by omega) h1 (by omega) r1
    have e2 := mul_ge (a := tpL x k) (c := rtL (k + 1)) (by omega) h2 (by omega) r2
    unfold tpL tpH
    split
    · generalize tpL x k * rtL (k + 1) = u at *
      generalize tpH x k * rtH (k + 1) = v at *
      omega
    · exact ⟨h1, h2⟩
/-- What PowerStored shows, and whether it was not cut. -/
noncomputable def pwV (q n : Int) : Int := rnd (tpL (n % 2 ^ q.toNat * 2 ^ (16 - q).toNat) 16) (2 ^ (28 - q - n / 2 ^ q.toNat).toNat)
noncomputable def pwN (p q n : Int) : Int := if 28 - q - n / 2 ^ q.toNat ≤ 0 then pw p q - 1 else if 60 < 28 - q - n / 2 ^ q.toNat then 0 else cutV p q (pwV q n)
noncomputable def pwOk (p q n : Int) : Bool := if 28 - q - n / 2 ^ q.toNat ≤ 0 then false else if 60 < 28 - q - n / 2 ^ q.toNat then true else cutV p q (pwV q n) == pwV q n
theorem cutV_top {p q v : Int} (h1 : 1 ≤ p) (h2 : p ≤ 12) (h3 : 0 ≤ q) (h4 : q ≤ 16) (h : pw p q - 1 < v) : cutV p q v = pw p q - 1 ∧ (cutV p q v == v) = false := by
  have := pw_bd h1 h2 h3 h4
  have e : cutV p q v = pw p q - 1 := by unfold cutV; omega
  refine ⟨e, ?_⟩
  rw [e]
  exact beq_eq_false_iff_ne.2 (by omega)
theorem rnd_ge {a b : Int} : a / b ≤ rnd a b := by unfold rnd; split <;> omega
theorem pow_toNat {a b : Int} (h1 : 0 ≤ a) (h2 : 0 ≤ b) : (2 : Int) ^ (a + b).toNat = 2 ^ a.toNat * 2 ^ b.toNat := by
  rw [Int.toNat_add h1 h2, Int.pow_add]
theorem pow_le2 {a b : Int} (h1 : a ≤ b) : (2 : Int) ^ a.toNat ≤ 2 ^ b.toNat := by
  have h : a.toNat ≤ b.toNat := by omega
  generalize a.toNat = m at h
  generalize b.toNat = n at h
  have e1 : (2 : Nat) ^ m ≤ 2 ^ n := Nat.pow_le_pow_right (by omega) h
  have e2 : ((2 ^ m : Nat) : Int) = (2 : Int) ^ m := by rw [Int.natCast_pow]; rfl
  have e3 : ((2 ^ n : Nat) : Int) = (2 : Int) ^ n := by rw [Int.natCast_pow]; rfl
  rw [← e2, ← e3]
  exact Int.ofNat_le.2 e1
/-- A power that is greater than what can be stored. -/
theorem pw_big {p q n : Int} (h1 : 1 ≤ p) (h2 : p ≤ 12) (h3 : 0 ≤ q) (h4 : q ≤ 16) (hw : p + 1 ≤ n / 2 ^ q.toNat) : pwN p q n = pw p q - 1 ∧ pwOk p q n = false := by
  unfold pwN pwOk
  generalize hW : n / 2 ^ q.toNat = W at *
  by_cases hs : 28 - q - W ≤ 0
  · rw [if_pos hs, if_pos hs]; exact ⟨rfl, rfl⟩
  · rw [if_neg hs, if_neg hs, if_neg (by omega), if_neg (by omega)]
    have hl := (tpL_le (n % 2 ^ q.toNat * 2 ^ (16 - q).toNat) 16).1
    have hp : (0 : Int) < 2 ^ (28 - q - W).toNat := by have := p2_bd60 (k := 28 - q - W) (by omega) (by omega); omega
    refine cutV_top h1 h2 h3 h4 ?_
    have e1 : pw p q * 2 ^ (28 - q - W).toNat ≤ 134217728 := by
      unfold pw
      rw [← pow_toNat (by omega) (by omega)]
      have := pow_le2 (a := p + q + (28 - q - W)) (b := 27) (by omega)
      have e : (2 : Int) ^ (27 : Int).toNat = 134217728 := by decide
      omega
    have e2 : pw p q ≤ 268435456 / 2 ^ (28 - q - W).toNat := by
      rw [Int.le_ediv_iff_mul_le hp]; omega
    have e3 : (268435456 : Int) / 2 ^ (28 - q - W).toNat ≤ tpL (n % 2 ^ q.toNat * 2 ^ (16 - q).toNat) 16 / 2 ^ (28 - q - W).toNat := Int.ediv_le_ediv hp hl
    have e4 := rnd_ge (a := tpL (n % 2 ^ q.toNat * 2 ^ (16 - q).toNat) 16) (b := 2 ^ (28 - q - W).toNat)
    unfold pwV
    rw [hW]
    omega
theorem pw_top {p q n : Int} (hs : 28 - q - n / 2 ^ q.toNat ≤ 0) : pwN p q n = pw p q - 1 ∧ pwOk p q n = false := by
  unfold pwN pwOk; rw [if_pos hs, if_pos hs]; exact ⟨rfl, rfl⟩
theorem pw_low {p q n : Int} (hs : 60 < 28 - q - n / 2 ^ q.toNat) : pwN p q n = 0 ∧ pwOk p q n = true := by
  have h0 : ¬ 28 - q - n / 2 ^ q.toNat ≤ 0 := by omega
  unfold pwN pwOk; rw [if_neg h0, if_neg h0, if_pos hs, if_pos hs]; exact ⟨rfl, rfl⟩
theorem pw_mid {p q n : Int} (hs : ¬ 28 - q - n / 2 ^ q.toNat ≤ 0) (ht : ¬ 60 < 28 - q - n / 2 ^ q.toNat) : pwN p q n = cutV p q (pwV q n) ∧ pwOk p q n = (cutV p q (pwV q n) == pwV q n) := by
  unfold pwN pwOk; rw [if_neg hs, if_neg hs, if_neg ht, if_neg ht]; exact ⟨rfl, rfl⟩
end Go.Proofs.YtidnnnjjpjadlaaGreatDoor

/- SpanSqrt of both. No condition: contracts for the walks of the laws. -/
namespace Go.Proofs.YtidnnnjjpjadlaaGreatDoor
open Go.ChangeShapes Go.WideShapes Go.ChangeAt Go.RowKit

set_option maxHeartbeats 1000000 in
theorem ck_yes (a b : Int) (w : World) (hs : spB a b = true) : Calls Tryz.prog 130 #[.agg #[.int .i64 a, .int .i64 b]] w fun e w' => e = .returned (.tuple #[.agg #[.int .i64 a, .int .i64 b], .bool true]) ∧ Below w.heap.size w w' := by
  go_enter Tryz.func130, Tryz.ntmps130
  go_wp2_with fail
  refine (spvb_impl hs _).mono ?_
  rintro e w1 ⟨rfl, mm, rfl⟩
  go_wp2_with fail
  refine bodyPost_ret (v := .tuple #[.agg #[.int .i64 a, .int .i64 b], .bool true]) (by simp [results, Tryz.results130, go_sem]) rfl ?_
  exact ⟨rfl, (by repeat' (first | (with_reducible exact Below.refl _ _) | (with_reducible assumption) | (with_reducible refine below_drewN ?_ _) | (with_reducible refine Below.drew ?_) | (with_reducible refine bl_alloc ?_ _) | (with_reducible refine bl_set ?_ ?_ _) | go_size | omega))⟩
set_option maxHeartbeats 1000000 in
theorem l7_yes (a b : Int) (w : World) (hs : spB a b = true) : Calls Tryz.prog 106 #[.agg #[.int .i64 a, .int .i64 b]] w fun e w' => e = .returned (.tuple #[.agg #[.int .i64 a, .int .i64 b], .bool true]) ∧ Below w.heap.size w w' := by
  go_enter Tryz.func106, Tryz.ntmps106
  go_wp2_with fail
  refine (spvb_spec hs _).mono ?_
  rintro e w1 ⟨rfl, mm, rfl⟩
  go_wp2_with fail
  refine bodyPost_ret (v := .tuple #[.agg #[.int .i64 a, .int .i64 b], .bool true]) (by simp [results, Tryz.results106, go_sem]) rfl ?_
  exact ⟨rfl, (by repeat' (first | (with_reducible exact Below.refl _ _) | (with_reducible assumption) | (with_reducible refine below_drewN ?_ _) | (with_reducible refine Below.drew ?_) | (with_reducible refine bl_alloc ?_ _) | (with_reducible refine bl_set ?_ ?_ _) | go_size | omega))⟩
set_option maxHeartbeats 1000000 in
theorem sqi_val (n : Int) (w : World) (h1 : 0 ≤ n) (h2 : n ≤ 1152921504606846976) : Calls Tryz.prog 99 #[.int .i64 n] w fun e w' => e = .returned (.int .i64 (isq n)) ∧ w = w' :=
  (sqrt_impl n w (by omega) (by omega)).mono fun e w' ⟨⟨r, he, hr⟩, hw⟩ => ⟨by rw [he, isq_eq hr], hw⟩
theorem sqs_val (n : Int) (w : World) (h1 : 0 ≤ n) (h2 : n ≤ 1152921504606846976) : Calls Tryz.prog 68 #[.int .i64 n] w fun e w' => e = .returned (.int .i64 (isq n)) ∧ w = w' :=
  (l2sqrt_any n w h1 h2).mono fun e w' ⟨⟨r, he, hr⟩, hw⟩ => ⟨by rw [he, isq_eq hr], hw⟩
set_option maxHeartbeats 4000000 in
theorem ssq_impl (lo hi : Int) (w : World) (h1 : 268435456 ≤ lo) (h2 : lo ≤ hi) (h3 : hi ≤ 536870912) : Calls Tryz.prog 119 #[.agg #[.int .i64 lo, .int .i64 hi]] w fun e w' => e = .returned (.tuple #[.agg #[.int .i64 (ssL lo), .int .i64 (ssH hi)], .bool true]) ∧ Below w.heap.size w w' := by
  have HV := Lib.hid (fun w' => spvb_impl (spB_in (a := lo) (b := hi) (by omega) (by omega) (by omega) (by omega) h2).symm w')
  obtain ⟨b1, b2, b3⟩ := ss_bd h1 h2 h3
  have HC := Lib.hid (fun w' => ck_yes (ssL lo) (ssH hi) w' (spB_in (by omega) (by omega) (by omega) (by omega) b2).symm)
  have S1 := Lib.hid (fun w' => sqi_val (hi * 268435456) w' (by omega) (by omega))
  have S2 := Lib.hid (fun w' => sqi_val (lo * 268435456) w' (by omega) (by omega))
  have sb1 := (sq_ex (n := hi * 268435456) (by omega) (by omega)).bd
  have eL : ssL lo = isq (lo * 268435456) := rfl
  rw [eL] at b1 b2 ⊢
  rw [eL] at HC
  generalize hA : isq (lo * 268435456) = A at *
  generalize hB : isq (hi * 268435456) = Bv at *
  have hbb := mul_absI (x := Bv) (y := Bv) (N := 1073741824) (M := 1073741824) (by omega) sb1.2 (by omega) sb1.2 (by omega) (by omega)
  by_cases hlt : Bv * Bv < hi * 268435456
  · have eH : ssH hi = Bv + 1 := by unfold ssH; rw [hB, if_pos hlt]
    rw [eH] at b2 b3 ⊢
    rw [eH] at HC
    have Bz : Hid (Blk ((w.alloc (.cells #[.int .i64 lo, .int .i64 hi] 85)).alloc (.cells #[.int .i64 0, .int .i64 0] 85)) (w.heap.size + 1) 85 #[.int .i64 0, .int .i64 0]) := Lib.hid (Blk.newAt (by simp))
    have HB := Lib.hid (Below.refl w.heap.size w)
    clear eH hA hB
    go_enter Tryz.func119, Tryz.ntmps119
    go_wp2_with fail
    refine (HV.out _).mono ?_
    rintro e w1 ⟨rfl, mm, rfl⟩
    go_wp2_with fail
    refine (S1.out _).mono ?_
    rintro e w2 ⟨rfl, rfl⟩
    go_wp2_with fail
    refine (S2.out _).mono ?_
    rintro e w3 ⟨rfl, rfl⟩
    go_wp2_with fail
    refine (HC.out _).mono ?_
    rintro e w5 ⟨rfl, hb⟩
    have hw := bl_behind (w := w) hb (by have hb0 := HB.out; repeat (first | (with_reducible exact hb0) | (with_reducible refine below_drewN ?_ _) | (with_reducible refine Below.drew ?_) | (with_reducible refine bl_alloc ?_ _))); have bz := Blk.below (g := (w.heap.size + 1)) (t := 85) (cs := #[.int .i64 0, .int .i64 0]) (by repeat (first | (with_reducible exact Bz.out) | (with_reducible exact Blk.new _ _ _) | (with_reducible refine Blk.drewN ?_ _) | (with_reducible refine Blk.drew ?_) | (with_reducible refine Blk.alloc ?_ _))) hb (by first | (have := Bz.out.lt; first | omega | (simp; omega)) | (simp; done) | (simp; omega)); have Bz := Lib.hid bz; obtain ⟨kz0, kz1, fz0, fz1, lz⟩ := blk2 bz; clear bz; have HB := Lib.hid hw; clear hw hb
    go_wp2_with fail
    have bk : Blk _ (w.heap.size + 1) 85 #[.int .i64 (A), .int .i64 (Bv + 1)] := (Bz.out.set 0 (.int .i64 A)).set 1 (.int .i64 (Bv + 1))
    obtain ⟨q0, q1, -, -, -⟩ := blk2 bk
    refine bodyPost_ret (v := .tuple #[.agg #[.int .i64 (A), .int .i64 (Bv + 1)], .bool true]) (by simp [results, Tryz.results119, go_sem, q0, q1]) rfl ?_
    have hb := HB.out
    exact ⟨rfl, (by repeat' (first | (with_reducible exact Below.refl _ _) | (with_reducible assumption) | (with_reducible refine below_drewN ?_ _) | (with_reducible refine Below.drew ?_) | (with_reducible refine bl_alloc ?_ _) | (with_reducible refine bl_set ?_ ?_ _) | go_size | omega))⟩
  · have eH : ssH hi = Bv := by unfold ssH; rw [hB, if_neg hlt]
    rw [eH] at b2 b3 ⊢
    rw [eH] at HC
    have Bz : Hid (Blk ((w.alloc (.cells #[.int .i64 lo, .int .i64 hi] 85)).alloc (.cells #[.int .i64 0, .int .i64 0] 85)) (w.heap.size + 1) 85 #[.int .i64 0, .int .i64 0]) := Lib.hid (Blk.newAt (by simp))
    have HB := Lib.hid (Below.refl w.heap.size w)
    clear eH hA hB
    go_enter Tryz.func119, Tryz.ntmps119
    go_wp2_with fail
    refine (HV.out _).mono ?_
    rintro e w1 ⟨rfl, mm, rfl⟩
    go_wp2_with fail
    refine (S1.out _).mono ?_
    rintro e w2 ⟨rfl, rfl⟩
    go_wp2_with fail
    refine (S2.out _).mono ?_
    rintro e w3 ⟨rfl, rfl⟩
    go_wp2_with fail
    refine (HC.out _).mono ?_
    rintro e w5 ⟨rfl, hb⟩
    have hw := bl_behind (w := w) hb (by have hb0 := HB.out; repeat (first | (with_reducible exact hb0) | (with_reducible refine below_drewN ?_ _) | (with_reducible refine Below.drew ?_) | (with_reducible refine bl_alloc ?_ _))); have bz := Blk.below (g := (w.heap.size + 1)) (t := 85) (cs := #[.int .i64 0, .int .i64 0]) (by repeat (first | (with_reducible exact Bz.out) | (with_reducible exact Blk.new _ _ _) | (with_reducible refine Blk.drewN ?_ _) | (with_reducible refine Blk.drew ?_) | (with_reducible refine Blk.alloc ?_ _))) hb (by first | (have := Bz.out.lt; first | omega | (simp; omega)) | (simp; done) | (simp; omega)); have Bz := Lib.hid bz; obtain ⟨kz0, kz1, fz0, fz1, lz⟩ := blk2 bz; clear bz; have HB := Lib.hid hw; clear hw hb
    go_wp2_with fail
    have bk : Blk _ (w.heap.size + 1) 85 #[.int .i64 (A), .int .i64 (Bv)] := (Bz.out.set 0 (.int .i64 A)).set 1 (.int .i64 (Bv))
    obtain ⟨q0, q1, -, -, -⟩ := blk2 bk
    refine bodyPost_ret (v := .tuple #[.agg #[.int .i64 (A), .int .i64 (Bv)], .bool true]) (by simp [results, Tryz.results119, go_sem, q0, q1]) rfl ?_
    have hb := HB.out
    exact ⟨rfl, (by repeat' (first | (with_reducible exact Below.refl _ _) | (with_reducible assumption) | (with_reducible refine below_drewN ?_ _) | (with_reducible refine Below.drew ?_) | (with_reducible refine bl_alloc ?_ _) | (with_reducible refine bl_set ?_ ?_ _) | go_size | omega))⟩
set_option maxHeartbeats 4000000 in
theorem ssq_spec (lo hi : Int) (w : World) (h1 : 268435456 ≤ lo) (h2 : lo ≤ hi) (h3 : hi ≤ 536870912) : Calls Tryz.prog 108 #[.agg #[.int .i64 lo, .int .i64 hi]] w fun e w' => e = .returned (.tuple #[.agg #[.int .i64 (ssL lo), .int .i64 (ssH hi)], .bool true]) ∧ Below w.heap.size w w' := by
  have HV := Lib.hid (fun w' => spvb_spec (spB_in (a := lo) (b := hi) (by omega) (by omega) (by omega) (by omega) h2).symm w')
  obtain ⟨b1, b2, b3⟩ := ss_bd h1 h2 h3
  skip
  have S1 := Lib.hid (fun w' => sqs_val (hi * 268435456) w' (by omega) (by omega))
  have S2 := Lib.hid (fun w' => sqs_val (lo * 268435456) w' (by omega) (by omega))
  have sb1 := (sq_ex (n := hi * 268435456) (by omega) (by omega)).bd
  have eL : ssL lo = isq (lo * 268435456) := rfl
  rw [eL] at b1 b2 ⊢
  skip
  generalize hA : isq (lo * 268435456) = A at *
  generalize hB : isq (hi * 268435456) = Bv at *
  have hbb := mul_absI (x := Bv) (y := Bv) (N := 1073741824) (M := 1073741824) (by omega) sb1.2 (by omega) sb1.2 (by omega) (by omega)
  by_cases hlt : Bv * Bv < hi * 268435456
  · have eH : ssH hi = Bv + 1 := by unfold ssH; rw [hB, if_pos hlt]
    rw [eH] at b2 b3 ⊢
    skip
    have Bz : Hid (Blk ((w.alloc (.cells #[.int .i64 lo, .int .i64 hi] 85)).alloc (.cells #[.int .i64 0, .int .i64 0] 85)) (w.heap.size + 1) 85 #[.int .i64 0, .int .i64 0]) := Lib.hid (Blk.newAt (by simp))
    have HB := Lib.hid (Below.refl w.heap.size w)
    clear eH hA hB
    go_enter Tryz.func108, Tryz.ntmps108
    go_wp2_with fail
    refine (HV.out _).mono ?_
    rintro e w1 ⟨rfl, mm, rfl⟩
    go_wp2_with fail
    refine (S1.out _).mono ?_
    rintro e w2 ⟨rfl, rfl⟩
    go_wp2_with fail
    refine (S2.out _).mono ?_
    rintro e w3 ⟨rfl, rfl⟩
    go_wp2_with fail
    refine bodyPost_ret (v := .tuple #[.agg #[.int .i64 (A), .int .i64 (Bv + 1)], .bool true]) (by simp [results, Tryz.results108, go_sem]) rfl ?_
    exact ⟨rfl, (by repeat' (first | (with_reducible exact Below.refl _ _) | (with_reducible assumption) | (with_reducible refine below_drewN ?_ _) | (with_reducible refine Below.drew ?_) | (with_reducible refine bl_alloc ?_ _) | (with_reducible refine bl_set ?_ ?_ _) | go_size | omega))⟩
  · have eH : ssH hi = Bv := by unfold ssH; rw [hB, if_neg hlt]
    rw [eH] at b2 b3 ⊢
    skip
    have Bz : Hid (Blk ((w.alloc (.cells #[.int .i64 lo, .int .i64 hi] 85)).alloc (.cells #[.int .i64 0, .int .i64 0] 85)) (w.heap.size + 1) 85 #[.int .i64 0, .int .i64 0]) := Lib.hid (Blk.newAt (by simp))
    have HB := Lib.hid (Below.refl w.heap.size w)
    clear eH hA hB
    go_enter Tryz.func108, Tryz.ntmps108
    go_wp2_with fail
    refine (HV.out _).mono ?_
    rintro e w1 ⟨rfl, mm, rfl⟩
    go_wp2_with fail
    refine (S1.out _).mono ?_
    rintro e w2 ⟨rfl, rfl⟩
    go_wp2_with fail
    refine (S2.out _).mono ?_
    rintro e w3 ⟨rfl, rfl⟩
    go_wp2_with fail
    refine bodyPost_ret (v := .tuple #[.agg #[.int .i64 (A), .int .i64 (Bv)], .bool true]) (by simp [results, Tryz.results108, go_sem]) rfl ?_
    exact ⟨rfl, (by repeat' (first | (with_reducible exact Below.refl _ _) | (with_reducible assumption) | (with_reducible refine below_drewN ?_ _) | (with_reducible refine Below.drew ?_) | (with_reducible refine bl_alloc ?_ _) | (with_reducible refine bl_set ?_ ?_ _) | go_size | omega))⟩
end Go.Proofs.YtidnnnjjpjadlaaGreatDoor

/- SpanMul of both. No condition: contracts for the walks of the laws. -/
namespace Go.Proofs.YtidnnnjjpjadlaaGreatDoor
open Go.ChangeShapes Go.WideShapes Go.ChangeAt Go.RowKit

theorem run_min4 {P : Program} (w : World) (ts : Array TypeId) (t : TypeId) {x y z u : Int} (h1 : x ≤ y) (h2 : x ≤ z) (h3 : x ≤ u) :
    (Builtin.min_ ts t #[.int .i64 x, .int .i64 y, .int .i64 z, .int .i64 u]).run P w = .ok (.int .i64 x) w := by
  have e1 : ¬ y < x := by omega
  have e2 : ¬ z < x := by omega
  have e3 : ¬ u < x := by omega
  simp [Builtin.min_, Builtin.min2, e1, e2, e3]
theorem run_max4 {P : Program} (w : World) (ts : Array TypeId) (t : TypeId) {x y z u : Int} (h1 : x ≤ u) (h2 : y ≤ u) (h3 : z ≤ u) :
    (Builtin.max_ ts t #[.int .i64 x, .int .i64 y, .int .i64 z, .int .i64 u]).run P w = .ok (.int .i64 u) w := by
  have e : (if u > (if z > (if y > x then y else x) then z else (if y > x then y else x)) then u else (if z > (if y > x then y else x) then z else (if y > x then y else x))) = u := by
    repeat' split
    all_goals omega
  simp only [gt_iff_lt] at e
  simp [Builtin.max_, Builtin.max2, e]
set_option maxHeartbeats 1000000 in
theorem cd_impl (a b : Int) (w : World) (h1 : -1152921504606846976 ≤ a) (h2 : a ≤ 1152921504606846976) (h3 : 1 ≤ b) (h4 : b ≤ 1152921504606846976) : Calls Tryz.prog 131 #[.int .i64 a, .int .i64 b] w fun e w' => e = .returned (.int .i64 (-(-a / b))) ∧ w = w' := by
  obtain ⟨e1, e2⟩ := ediv_abs (a := -a) (b := b) (M := 1152921504606846976) h3 (by omega) (by omega) (by omega)
  go_enter Tryz.func131, Tryz.ntmps131
  go_wp2_with (first | (go_at_call 104; refine (floordiv_any _ _ _ (by omega) (by omega) (by omega) (by omega)).mono ?_; rintro e w' ⟨rfl, rfl⟩))
  go_ret
  exact ⟨rfl, rfl⟩
set_option maxHeartbeats 1000000 in
theorem l7c_any (a b : Int) (w : World) (h1 : -1152921504606846976 ≤ a) (h2 : a ≤ 1152921504606846976) (h3 : 1 ≤ b) (h4 : b ≤ 1152921504606846976) : Calls Tryz.prog 107 #[.int .i64 a, .int .i64 b] w fun e w' => e = .returned (.int .i64 (-(-a / b))) ∧ w = w' := by
  obtain ⟨e1, e2⟩ := ediv_abs (a := -a) (b := b) (M := 1152921504606846976) h3 (by omega) (by omega) (by omega)
  go_enter Tryz.func107, Tryz.ntmps107
  go_wp2_with (first | (go_at_call 69; refine (l1floor_any _ _ _ (by omega) (by omega) (by omega) (by omega)).mono ?_; rintro e w' ⟨rfl, rfl⟩))
  go_ret
  exact ⟨rfl, rfl⟩
set_option maxHeartbeats 4000000 in
theorem smul_impl (a b c d : Int) (w : World) (h1 : 268435456 ≤ a) (h2 : a ≤ b) (h3 : b ≤ 536870912) (h4 : 268435456 ≤ c) (h5 : c ≤ d) (h6 : d ≤ 536870912) : Calls Tryz.prog 120 #[.agg #[.int .i64 a, .int .i64 b], .agg #[.int .i64 c, .int .i64 d]] w fun e w' => e = .returned (.tuple #[.agg #[.int .i64 (a * c / 268435456), .int .i64 (-(-(b * d) / 268435456))], .bool true]) ∧ Below w.heap.size w w' := by
  have HV := Lib.hid (fun w' => spvb_impl (spB_in (a := a) (b := b) (by omega) (by omega) (by omega) (by omega) h2).symm w')
  have HV2 := Lib.hid (fun w' => spvb_impl (spB_in (a := c) (b := d) (by omega) (by omega) (by omega) (by omega) h5).symm w')
  have m1 := mul_ge (a := 268435456) (c := 268435456) (by omega) h1 (by omega) h4
  have m2 := mul_ge (a := a) (b := a) (c := c) (d := d) (by omega) (Int.le_refl _) (by omega) h5
  have m3 := mul_ge (a := a) (b := b) (c := c) (d := c) (by omega) h2 (by omega) (Int.le_refl _)
  have m4 := mul_ge (a := a) (b := b) (c := d) (d := d) (by omega) h2 (by omega) (Int.le_refl _)
  have m5 := mul_ge (a := b) (b := b) (c := c) (d := d) (by omega) (Int.le_refl _) (by omega) h5
  have m6 := mul_ge (a := b) (b := 536870912) (c := d) (d := 536870912) (by omega) h3 (by omega) h6
  have HC := Lib.hid (fun w' => ck_yes (a * c / 268435456) (-(-(b * d) / 268435456)) w' (spB_in (by omega) (by omega) (by omega) (by omega) (by omega)).symm)
  have F1 := Lib.hid (fun w' => floordiv_any (a * c) 268435456 w' (by omega) (by omega) (by omega) (by omega))
  have F2 := Lib.hid (fun w' => cd_impl (b * d) 268435456 w' (by omega) (by omega) (by omega) (by omega))
  have w1 : IntKind.i64.wrap (a * c) = a * c := by rw [IntKind.wrap_i64]; omega
  have w2 : IntKind.i64.wrap (a * d) = a * d := by rw [IntKind.wrap_i64]; omega
  have w3 : IntKind.i64.wrap (b * c) = b * c := by rw [IntKind.wrap_i64]; omega
  have w4 : IntKind.i64.wrap (b * d) = b * d := by rw [IntKind.wrap_i64]; omega
  have kmn := fun ts t (w' : World) => run_min4 (P := Tryz.prog) w' ts t (x := a * c) (y := a * d) (z := b * c) (u := b * d) (by omega) (by omega) (by omega)
  have kmx := fun ts t (w' : World) => run_max4 (P := Tryz.prog) w' ts t (x := a * c) (y := a * d) (z := b * c) (u := b * d) (by omega) (by omega) (by omega)
  have Bz : Hid (Blk (((w.alloc (.cells #[.int .i64 a, .int .i64 b] 85)).alloc (.cells #[.int .i64 c, .int .i64 d] 85)).alloc (.cells #[.int .i64 0, .int .i64 0] 85)) (w.heap.size + 2) 85 #[.int .i64 0, .int .i64 0]) := Lib.hid (Blk.newAt (by simp))
  have HB := Lib.hid (Below.refl w.heap.size w)
  go_enter Tryz.func120, Tryz.ntmps120
  go_wp2_with fail
  refine (HV.out _).mono ?_
  rintro e w1 ⟨rfl, mm, rfl⟩
  go_wp2_with fail
  refine (HV2.out _).mono ?_
  rintro e w2 ⟨rfl, mm2, rfl⟩
  go_wp2_with fail
  go_quiet (fail)
  go_wp2_with fail
  refine (F1.out _).mono ?_
  rintro e w3 ⟨rfl, rfl⟩
  go_wp2_with fail
  refine (F2.out _).mono ?_
  rintro e w4 ⟨rfl, rfl⟩
  go_wp2_with fail
  refine (HC.out _).mono ?_
  rintro e w5 ⟨rfl, hb⟩
  have hw := bl_behind (w := w) hb (by have hb0 := HB.out; repeat (first | (with_reducible exact hb0) | (with_reducible refine below_drewN ?_ _) | (with_reducible refine Below.drew ?_) | (with_reducible refine bl_alloc ?_ _))); have bz := Blk.below (g := (w.heap.size + 2)) (t := 85) (cs := #[.int .i64 0, .int .i64 0]) (by repeat (first | (with_reducible exact Bz.out) | (with_reducible exact Blk.new _ _ _) | (with_reducible refine Blk.drewN ?_ _) | (with_reducible refine Blk.drew ?_) | (with_reducible refine Blk.alloc ?_ _))) hb (by first | (have := Bz.out.lt; first | omega | (simp; omega)) | (simp; done) | (simp; omega)); have Bz := Lib.hid bz; obtain ⟨kz0, kz1, fz0, fz1, lz⟩ := blk2 bz; clear bz; have HB := Lib.hid hw; clear hw hb
  go_wp2_with fail
  have bk : Blk _ (w.heap.size + 2) 85 #[.int .i64 (a * c / 268435456), .int .i64 (-(-(b * d) / 268435456))] := (Bz.out.set 0 (.int .i64 (a * c / 268435456))).set 1 (.int .i64 (-(-(b * d) / 268435456)))
  obtain ⟨q0, q1, -, -, -⟩ := blk2 bk
  refine bodyPost_ret (v := .tuple #[.agg #[.int .i64 (a * c / 268435456), .int .i64 (-(-(b * d) / 268435456))], .bool true]) (by simp [results, Tryz.results120, go_sem, q0, q1]) rfl ?_
  have hb := HB.out
  exact ⟨rfl, (by repeat' (first | (with_reducible exact Below.refl _ _) | (with_reducible assumption) | (with_reducible refine below_drewN ?_ _) | (with_reducible refine Below.drew ?_) | (with_reducible refine bl_alloc ?_ _) | (with_reducible refine bl_set ?_ ?_ _) | go_size | omega))⟩
set_option maxHeartbeats 4000000 in
theorem smul_spec (a b c d : Int) (w : World) (h1 : 268435456 ≤ a) (h2 : a ≤ b) (h3 : b ≤ 536870912) (h4 : 268435456 ≤ c) (h5 : c ≤ d) (h6 : d ≤ 536870912) : Calls Tryz.prog 95 #[.agg #[.int .i64 a, .int .i64 b], .agg #[.int .i64 c, .int .i64 d]] w fun e w' => e = .returned (.tuple #[.agg #[.int .i64 (a * c / 268435456), .int .i64 (-(-(b * d) / 268435456))], .bool true]) ∧ Below w.heap.size w w' := by
  have HV := Lib.hid (fun w' => spvb_spec (spB_in (a := a) (b := b) (by omega) (by omega) (by omega) (by omega) h2).symm w')
  have HV2 := Lib.hid (fun w' => spvb_spec (spB_in (a := c) (b := d) (by omega) (by omega) (by omega) (by omega) h5).symm w')
  have m1 := mul_ge (a := 268435456) (c := 268435456) (by omega) h1 (by omega) h4
  have m2 := mul_ge (a := a) (b := a) (c := c) (d := d) (by omega) (Int.le_refl _) (by omega) h5
  have m3 := mul_ge (a := a) (b := b) (c := c) (d := c) (by omega) h2 (by omega) (Int.le_refl _)
  have m4 := mul_ge (a := a) (b := b) (c := d) (d := d) (by omega) h2 (by omega) (Int.le_refl _)
  have m5 := mul_ge (a := b) (b := b) (c := c) (d := d) (by omega) (Int.le_refl _) (by omega) h5
  have m6 := mul_ge (a := b) (b := 536870912) (c := d) (d := 536870912) (by omega) h3 (by omega) h6
  have HC := Lib.hid (fun w' => l7_yes (a * c / 268435456) (-(-(b * d) / 268435456)) w' (spB_in (by omega) (by omega) (by omega) (by omega) (by omega)).symm)
  have F1 := Lib.hid (fun w' => l1floor_any (a * c) 268435456 w' (by omega) (by omega) (by omega) (by omega))
  have F2 := Lib.hid (fun w' => l7c_any (b * d) 268435456 w' (by omega) (by omega) (by omega) (by omega))
  have w1 : IntKind.i64.wrap (a * c) = a * c := by rw [IntKind.wrap_i64]; omega
  have w2 : IntKind.i64.wrap (a * d) = a * d := by rw [IntKind.wrap_i64]; omega
  have w3 : IntKind.i64.wrap (b * c) = b * c := by rw [IntKind.wrap_i64]; omega
  have w4 : IntKind.i64.wrap (b * d) = b * d := by rw [IntKind.wrap_i64]; omega
  have kmn := fun ts t (w' : World) => run_min4 (P := Tryz.prog) w' ts t (x := a * c) (y := a * d) (z := b * c) (u := b * d) (by omega) (by omega) (by omega)
  have kmx := fun ts t (w' : World) => run_max4 (P := Tryz.prog) w' ts t (x := a * c) (y := a * d) (z := b * c) (u := b * d) (by omega) (by omega) (by omega)
  have Bz : Hid (Blk (((w.alloc (.cells #[.int .i64 a, .int .i64 b] 85)).alloc (.cells #[.int .i64 c, .int .i64 d] 85)).alloc (.cells #[.int .i64 0, .int .i64 0] 85)) (w.heap.size + 2) 85 #[.int .i64 0, .int .i64 0]) := Lib.hid (Blk.newAt (by simp))
  have HB := Lib.hid (Below.refl w.heap.size w)
  go_enter Tryz.func95, Tryz.ntmps95
  go_wp2_with fail
  refine (HV.out _).mono ?_
  rintro e w1 ⟨rfl, mm, rfl⟩
  go_wp2_with fail
  refine (HV2.out _).mono ?_
  rintro e w2 ⟨rfl, mm2, rfl⟩
  go_wp2_with fail
  skip
  skip
  refine (F1.out _).mono ?_
  rintro e w3 ⟨rfl, rfl⟩
  go_wp2_with fail
  refine (F2.out _).mono ?_
  rintro e w4 ⟨rfl, rfl⟩
  go_wp2_with fail
  refine (HC.out _).mono ?_
  rintro e w5 ⟨rfl, hb⟩
  have hw := bl_behind (w := w) hb (by have hb0 := HB.out; repeat (first | (with_reducible exact hb0) | (with_reducible refine below_drewN ?_ _) | (with_reducible refine Below.drew ?_) | (with_reducible refine bl_alloc ?_ _))); have bz := Blk.below (g := (w.heap.size + 2)) (t := 85) (cs := #[.int .i64 0, .int .i64 0]) (by repeat (first | (with_reducible exact Bz.out) | (with_reducible exact Blk.new _ _ _) | (with_reducible refine Blk.drewN ?_ _) | (with_reducible refine Blk.drew ?_) | (with_reducible refine Blk.alloc ?_ _))) hb (by first | (have := Bz.out.lt; first | omega | (simp; omega)) | (simp; done) | (simp; omega)); have Bz := Lib.hid bz; obtain ⟨kz0, kz1, fz0, fz1, lz⟩ := blk2 bz; clear bz; have HB := Lib.hid hw; clear hw hb
  go_wp2_with fail
  have bk : Blk _ (w.heap.size + 2) 85 #[.int .i64 (a * c / 268435456), .int .i64 (-(-(b * d) / 268435456))] := (Bz.out.set 0 (.int .i64 (a * c / 268435456))).set 1 (.int .i64 (-(-(b * d) / 268435456)))
  obtain ⟨q0, q1, -, -, -⟩ := blk2 bk
  refine bodyPost_ret (v := .tuple #[.agg #[.int .i64 (a * c / 268435456), .int .i64 (-(-(b * d) / 268435456))], .bool true]) (by simp [results, Tryz.results95, go_sem, q0, q1]) rfl ?_
  have hb := HB.out
  exact ⟨rfl, (by repeat' (first | (with_reducible exact Below.refl _ _) | (with_reducible assumption) | (with_reducible refine below_drewN ?_ _) | (with_reducible refine Below.drew ?_) | (with_reducible refine bl_alloc ?_ _) | (with_reducible refine bl_set ?_ ?_ _) | go_size | omega))⟩
end Go.Proofs.YtidnnnjjpjadlaaGreatDoor

/- TwoRoot of both. No condition: contracts for the walks of the laws. -/
namespace Go.Proofs.YtidnnnjjpjadlaaGreatDoor
open Go.ChangeShapes Go.WideShapes Go.ChangeAt Go.RowKit

set_option maxHeartbeats 1000000 in
theorem alone_any (n : Int) (w : World) : Calls Tryz.prog 117 #[.int .i64 n] w fun e w' => e = .returned (.agg #[.int .i64 n, .int .i64 n]) ∧ Below w.heap.size w w' := by
  go_enter Tryz.func117, Tryz.ntmps117
  go_wp2_with fail
  refine bodyPost_ret (v := .agg #[.int .i64 n, .int .i64 n]) (by simp [results, Tryz.results117, go_sem]) rfl ?_
  exact ⟨rfl, (by repeat' (first | (with_reducible exact Below.refl _ _) | (with_reducible assumption) | (with_reducible refine below_drewN ?_ _) | (with_reducible refine Below.drew ?_) | (with_reducible refine bl_alloc ?_ _) | (with_reducible refine bl_set ?_ ?_ _) | go_size | omega))⟩
set_option maxHeartbeats 4000000 in
theorem troot_impl (k : Nat) (w : World) (hk : k ≤ 16) : Calls Tryz.prog 118 #[.int .i64 (k : Int)] w fun e w' => e = .returned (.agg #[.int .i64 (rtL k), .int .i64 (rtH k)]) ∧ Below w.heap.size w w' := by
  have hki : (k : Int) ≤ 16 := by omega
  go_enter Tryz.func118, Tryz.ntmps118
  go_wp2_with fail
  refine (alone_any 536870912 _).mono ?_
  rintro e w1 ⟨rfl, hb⟩
  have bz := (Blk.new w 85 #[.int .i64 0, .int .i64 0]).below hb (by simp)
  have hw1 := unalloc hb
  have hs1 := hw1.size
  have Bz := Lib.hid (bz.alloc (.cells #[.int .i64 536870912, .int .i64 536870912] 85))
  have Bx := Lib.hid (Blk.new w1 85 #[.int .i64 536870912, .int .i64 536870912])
  have HB := Lib.hid (bl_alloc hw1 (.cells #[.int .i64 536870912, .int .i64 536870912] 85))
  have hne : w1.heap.size ≠ w.heap.size := by have := bz.lt; omega
  clear hb bz hw1
  go_wp2_with fail
  go_loopw [13] (fun i wr => ∃ j : Nat, i = .int .i64 (j : Int) ∧ j ≤ k ∧ Blk wr w1.heap.size 85 #[.int .i64 (rtL j), .int .i64 (rtH j)] ∧ Blk wr w.heap.size 85 #[.int .i64 0, .int .i64 0] ∧ Below w.heap.size w wr) (fun i _ => k - (RowKit.intOf i).toNat)
  case atStart => exact ⟨0, rfl, Nat.zero_le _, Bx.out, Bz.out, HB.out⟩
  case round =>
    obtain ⟨j, rfl, hj, bx, bz, hbl⟩ := hrel
    obtain ⟨kx0, kx1, fx0, fx1, lx⟩ := blk2 bx
    obtain ⟨kz0, kz1, fz0, fz1, lz⟩ := blk2 bz
    have Bx := Lib.hid bx
    have Bz := Lib.hid bz
    have HB := Lib.hid hbl
    clear bx bz hbl
    rcases Nat.lt_or_ge j k with hlt | hge
    · have hji : (j : Int) < (k : Int) := by omega
      obtain ⟨r1, r2, r3⟩ := rt_bd j
      have SQ := Lib.hid (fun w' => ssq_impl (rtL j) (rtH j) w' r1 r2 r3)
      clear r1 r2 r3
      go_wp2_with fail
      refine (SQ.out _).mono ?_
      rintro e w2 ⟨rfl, hb⟩
      have hw := bl_behind (w := w) hb (by have hb0 := HB.out; repeat (first | (with_reducible exact hb0) | (with_reducible refine below_drewN ?_ _) | (with_reducible refine Below.drew ?_) | (with_reducible refine bl_alloc ?_ _))); have bx := Blk.below (g := w1.heap.size) (t := 85) (cs := #[.int .i64 (rtL j), .int .i64 (rtH j)]) (by repeat (first | (with_reducible exact Bx.out) | (with_reducible exact Blk.new _ _ _) | (with_reducible refine Blk.drewN ?_ _) | (with_reducible refine Blk.drew ?_) | (with_reducible refine Blk.alloc ?_ _))) hb (by first | (have := Bx.out.lt; first | omega | (simp; omega)) | (simp; done) | (simp; omega)); have Bx := Lib.hid bx; obtain ⟨kx0, kx1, fx0, fx1, lx⟩ := blk2 bx; clear bx; have bz := Blk.below (g := w.heap.size) (t := 85) (cs := #[.int .i64 0, .int .i64 0]) (by repeat (first | (with_reducible exact Bz.out) | (with_reducible exact Blk.new _ _ _) | (with_reducible refine Blk.drewN ?_ _) | (with_reducible refine Blk.drew ?_) | (with_reducible refine Blk.alloc ?_ _))) hb (by first | (have := Bz.out.lt; first | omega | (simp; omega)) | (simp; done) | (simp; omega)); have Bz := Lib.hid bz; obtain ⟨kz0, kz1, fz0, fz1, lz⟩ := blk2 bz; clear bz; have HB := Lib.hid hw; clear hw hb
      have bx2 : Blk _ w1.heap.size 85 #[.int .i64 (rtL (j + 1)), .int .i64 (rtH (j + 1))] := (Bx.out.set 0 (.int .i64 (ssL (rtL j)))).set 1 (.int .i64 (ssH (rtH j)))
      have BX2 := Lib.hid bx2
      have BZ2 := Lib.hid ((Bz.out.far (p := ⟨w1.heap.size, 0, none⟩) (Ne.symm hne) (.int .i64 (ssL (rtL j)))).far (p := ⟨w1.heap.size, 1, none⟩) (Ne.symm hne) (.int .i64 (ssH (rtH j))))
      have HB2 := Lib.hid ((HB.out.setCell (p := ⟨w1.heap.size, 0, none⟩) hs1 (.int .i64 (ssL (rtL j)))).setCell (p := ⟨w1.heap.size, 1, none⟩) hs1 (.int .i64 (ssH (rtH j))))
      clear bx2
      go_wp2_with fail
      go_roundw
      case rel => exact ⟨j + 1, by go_num, by omega, BX2.out, BZ2.out, HB2.out⟩
      case measure => simp [RowKit.intOf] <;> omega
    · have e : j = k := by omega
      subst e
      go_wp2_with fail
      have bk : Blk _ w.heap.size 85 #[.int .i64 (rtL j), .int .i64 (rtH j)] := (Bz.out.set 0 (.int .i64 (rtL j))).set 1 (.int .i64 (rtH j))
      obtain ⟨q0, q1, -, -, -⟩ := blk2 bk
      refine bodyPost_ret (v := .agg #[.int .i64 (rtL j), .int .i64 (rtH j)]) (by simp [results, Tryz.results118, go_sem, q0, q1]) rfl ?_
      have hb := HB.out
      exact ⟨rfl, (by repeat' (first | (with_reducible exact Below.refl _ _) | (with_reducible assumption) | (with_reducible refine below_drewN ?_ _) | (with_reducible refine Below.drew ?_) | (with_reducible refine bl_alloc ?_ _) | (with_reducible refine bl_set ?_ ?_ _) | go_size | omega))⟩
set_option maxHeartbeats 4000000 in
theorem troot_spec (k : Nat) (w : World) (hk : k ≤ 16) : Calls Tryz.prog 96 #[.int .i64 (k : Int)] w fun e w' => e = .returned (.agg #[.int .i64 (rtL k), .int .i64 (rtH k)]) ∧ Below w.heap.size w w' := by
  have hki : (k : Int) ≤ 16 := by omega
  go_enter Tryz.func96, Tryz.ntmps96
  go_wp2_with fail
  have Bz := Lib.hid ((Blk.new w 85 #[.int .i64 0, .int .i64 0]).alloc (.cells #[.int .i64 536870912, .int .i64 536870912] 85))
  have Bx : Hid (Blk ((w.alloc (.cells #[.int .i64 0, .int .i64 0] 85)).alloc (.cells #[.int .i64 536870912, .int .i64 536870912] 85)) (w.heap.size + 1) 85 #[.int .i64 536870912, .int .i64 536870912]) := Lib.hid (Blk.newAt (by simp))
  have HB := Lib.hid (bl_alloc (bl_alloc (Below.refl w.heap.size w) (.cells #[.int .i64 0, .int .i64 0] 85)) (.cells #[.int .i64 536870912, .int .i64 536870912] 85))
  have hne : w.heap.size + 1 ≠ w.heap.size := by omega
  go_loopw [4] (fun i wr => ∃ j : Nat, i = .int .i64 (j : Int) ∧ j ≤ k ∧ Blk wr (w.heap.size + 1) 85 #[.int .i64 (rtL j), .int .i64 (rtH j)] ∧ Blk wr w.heap.size 85 #[.int .i64 0, .int .i64 0] ∧ Below w.heap.size w wr) (fun i _ => k - (RowKit.intOf i).toNat)
  case atStart => exact ⟨0, rfl, Nat.zero_le _, Bx.out, Bz.out, HB.out⟩
  case round =>
    obtain ⟨j, rfl, hj, bx, bz, hbl⟩ := hrel
    obtain ⟨kx0, kx1, fx0, fx1, lx⟩ := blk2 bx
    obtain ⟨kz0, kz1, fz0, fz1, lz⟩ := blk2 bz
    have Bx := Lib.hid bx
    have Bz := Lib.hid bz
    have HB := Lib.hid hbl
    clear bx bz hbl
    rcases Nat.lt_or_ge j k with hlt | hge
    · have hji : (j : Int) < (k : Int) := by omega
      obtain ⟨r1, r2, r3⟩ := rt_bd j
      have SQ := Lib.hid (fun w' => ssq_spec (rtL j) (rtH j) w' r1 r2 r3)
      clear r1 r2 r3
      go_wp2_with (first | (go_at_call 73; refine (l1in_yes _ _ _ _ (by omega) (by omega)).mono ?_; rintro e w' ⟨rfl, rfl⟩) | fail)
      refine (SQ.out _).mono ?_
      rintro e w2 ⟨rfl, hb⟩
      have hw := bl_behind (w := w) hb (by have hb0 := HB.out; repeat (first | (with_reducible exact hb0) | (with_reducible refine below_drewN ?_ _) | (with_reducible refine Below.drew ?_) | (with_reducible refine bl_alloc ?_ _))); have bx := Blk.below (g := (w.heap.size + 1)) (t := 85) (cs := #[.int .i64 (rtL j), .int .i64 (rtH j)]) (by repeat (first | (with_reducible exact Bx.out) | (with_reducible exact Blk.new _ _ _) | (with_reducible refine Blk.drewN ?_ _) | (with_reducible refine Blk.drew ?_) | (with_reducible refine Blk.alloc ?_ _))) hb (by first | (have := Bx.out.lt; first | omega | (simp; omega)) | (simp; done) | (simp; omega)); have Bx := Lib.hid bx; obtain ⟨kx0, kx1, fx0, fx1, lx⟩ := blk2 bx; clear bx; have bz := Blk.below (g := w.heap.size) (t := 85) (cs := #[.int .i64 0, .int .i64 0]) (by repeat (first | (with_reducible exact Bz.out) | (with_reducible exact Blk.new _ _ _) | (with_reducible refine Blk.drewN ?_ _) | (with_reducible refine Blk.drew ?_) | (with_reducible refine Blk.alloc ?_ _))) hb (by first | (have := Bz.out.lt; first | omega | (simp; omega)) | (simp; done) | (simp; omega)); have Bz := Lib.hid bz; obtain ⟨kz0, kz1, fz0, fz1, lz⟩ := blk2 bz; clear bz; have HB := Lib.hid hw; clear hw hb
      have bx2 : Blk _ (w.heap.size + 1) 85 #[.int .i64 (rtL (j + 1)), .int .i64 (rtH (j + 1))] := (Bx.out.set 0 (.int .i64 (ssL (rtL j)))).set 1 (.int .i64 (ssH (rtH j)))
      have BX2 := Lib.hid bx2
      have BZ2 := Lib.hid ((Bz.out.far (p := ⟨(w.heap.size + 1), 0, none⟩) (Ne.symm hne) (.int .i64 (ssL (rtL j)))).far (p := ⟨(w.heap.size + 1), 1, none⟩) (Ne.symm hne) (.int .i64 (ssH (rtH j))))
      have HB2 := Lib.hid ((HB.out.setCell (p := ⟨(w.heap.size + 1), 0, none⟩) (Nat.le_succ _) (.int .i64 (ssL (rtL j)))).setCell (p := ⟨(w.heap.size + 1), 1, none⟩) (Nat.le_succ _) (.int .i64 (ssH (rtH j))))
      clear bx2
      go_wp2_with fail
      go_roundw
      case rel => exact ⟨j + 1, by go_num, by omega, BX2.out, BZ2.out, HB2.out⟩
      case measure => simp [RowKit.intOf] <;> omega
    · have e : j = k := by omega
      subst e
      go_wp2_with (first | (go_at_call 73; refine (l1in_yes _ _ _ _ (by omega) (by omega)).mono ?_; rintro e w' ⟨rfl, rfl⟩) | fail)
      have bk : Blk _ w.heap.size 85 #[.int .i64 (rtL j), .int .i64 (rtH j)] := (Bz.out.set 0 (.int .i64 (rtL j))).set 1 (.int .i64 (rtH j))
      obtain ⟨q0, q1, -, -, -⟩ := blk2 bk
      refine bodyPost_ret (v := .agg #[.int .i64 (rtL j), .int .i64 (rtH j)]) (by simp [results, Tryz.results96, go_sem, q0, q1]) rfl ?_
      have hb := HB.out
      exact ⟨rfl, (by repeat' (first | (with_reducible exact Below.refl _ _) | (with_reducible assumption) | (with_reducible refine below_drewN ?_ _) | (with_reducible refine Below.drew ?_) | (with_reducible refine bl_alloc ?_ _) | (with_reducible refine bl_set ?_ ?_ _) | go_size | omega))⟩
end Go.Proofs.YtidnnnjjpjadlaaGreatDoor
