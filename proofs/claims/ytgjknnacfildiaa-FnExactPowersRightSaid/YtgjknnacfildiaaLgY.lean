/- Powers as long numbers tell: PowersRight of both. No condition: contracts for the walk of the law. -/
import Derived.Test.YtgjknnacfildiaaLgX
namespace Go.Proofs.Ytgjknnacfildiaa
open Go.ChangeShapes Go.WideShapes Go.ChangeAt Go.RowKit


/-- Whether e is the logarithm, as both functions find it. -/
def prB (n d e : Int) : Bool := if (1 ≤ n ∧ n ≤ 65535) ∧ (0 ≤ d ∧ d ≤ 5) ∧ (0 ≤ e ∧ e ≤ 1000) then
  decide ((2 : Int) ^ e.toNat < pB 60) && (decide (cmpV (2 ^ e.toNat) (n ^ (2 ^ d.toNat)) ≤ 0) && (!decide ((2 : Int) ^ (e.toNat + 1) < pB 60) || decide (0 < cmpV (2 ^ (e.toNat + 1)) (n ^ (2 ^ d.toNat))))) else false
theorem prB_out {n d e : Int} (h : ¬ ((1 ≤ n ∧ n ≤ 65535) ∧ (0 ≤ d ∧ d ≤ 5) ∧ (0 ≤ e ∧ e ≤ 1000))) : prB n d e = false := by unfold prB; rw [if_neg h]
theorem prB_in {n : Int} {d e : Nat} (h1 : 1 ≤ n) (h2 : n ≤ 65535) (h3 : d ≤ 5) (h4 : e ≤ 1000) : prB n d e = (decide ((2 : Int) ^ e < pB 60) && (decide (cmpV (2 ^ e) (n ^ (2 ^ d)) ≤ 0) && (!decide ((2 : Int) ^ (e + 1) < pB 60) || decide (0 < cmpV (2 ^ (e + 1)) (n ^ (2 ^ d)))))) := by
  unfold prB; rw [if_pos ⟨⟨h1, h2⟩, by omega, by omega⟩]; simp
theorem cmpV_cases (a b : Int) : cmpV a b = -1 ∨ cmpV a b = 0 ∨ cmpV a b = 1 := by unfold cmpV; split; (exact .inl rfl); split; (exact .inr (.inl rfl)); exact .inr (.inr rfl)
theorem pr_cases {p z c1 c2 : Int} : (pB 60 ≤ p ∧ (decide (p < pB 60) && (decide (c1 ≤ 0) && (!decide (z < pB 60) || decide (0 < c2)))) = false) ∨
    (p < pB 60 ∧ 0 < c1 ∧ (decide (p < pB 60) && (decide (c1 ≤ 0) && (!decide (z < pB 60) || decide (0 < c2)))) = false) ∨
    (p < pB 60 ∧ c1 ≤ 0 ∧ pB 60 ≤ z ∧ (decide (p < pB 60) && (decide (c1 ≤ 0) && (!decide (z < pB 60) || decide (0 < c2)))) = true) ∨
    (p < pB 60 ∧ c1 ≤ 0 ∧ z < pB 60 ∧ 0 < c2 ∧ (decide (p < pB 60) && (decide (c1 ≤ 0) && (!decide (z < pB 60) || decide (0 < c2)))) = true) ∨
    (p < pB 60 ∧ c1 ≤ 0 ∧ z < pB 60 ∧ c2 ≤ 0 ∧ (decide (p < pB 60) && (decide (c1 ≤ 0) && (!decide (z < pB 60) || decide (0 < c2)))) = false) := by
  simp only [Bool.and_eq_false_iff, Bool.and_eq_true, Bool.or_eq_true, Bool.or_eq_false_iff, decide_eq_true_eq, decide_eq_false_iff_not, Bool.not_eq_true', Bool.not_eq_false']
  omega
theorem two_lt : (2 : Int) < pB 60 := by decide +kernel
set_option maxHeartbeats 1000000 in
theorem la_yes (n d : Int) (w : World) (h1 : 1 ≤ n) (h2 : n ≤ 65535) (h3 : 0 ≤ d) (h4 : d ≤ 5) : Calls Try.prog 10 #[.int .i64 n, .int .i64 d] w fun e w' => e = .returned (.bool true) ∧ w = w' := by
  go_enter Try.func10, Try.ntmps10
  go_wp2
  go_ret
  exact ⟨ret_bool (by simp <;> omega), rfl⟩
set_option maxHeartbeats 1000000 in
theorem la_no (n d : Int) (w : World) (h : ¬ (1 ≤ n ∧ n ≤ 65535 ∧ 0 ≤ d ∧ d ≤ 5)) : Calls Try.prog 10 #[.int .i64 n, .int .i64 d] w fun e w' => e = .returned (.bool false) ∧ w = w' := by
  rcases (by omega : n < 1 ∨ (1 ≤ n ∧ 65535 < n) ∨ (1 ≤ n ∧ n ≤ 65535 ∧ d < 0) ∨ (1 ≤ n ∧ n ≤ 65535 ∧ 0 ≤ d ∧ 5 < d)) with h | ⟨h1, h⟩ | ⟨h1, h2, h⟩ | ⟨h1, h2, h3, h⟩
  all_goals
    go_enter Try.func10, Try.ntmps10
    go_wp2
    go_ret
    exact ⟨ret_bool (by simp <;> omega), rfl⟩
set_option maxHeartbeats 16000000 in
theorem pr_impl (n d e : Int) (w : World) : Calls Try.prog 5 #[.int .i64 n, .int .i64 d, .int .i64 e] w fun E w' => E = .returned (.bool (prB n d e)) ∧ Below w.heap.size w w' := by
  by_cases h : (1 ≤ n ∧ n ≤ 65535) ∧ (0 ≤ d ∧ d ≤ 5) ∧ (0 ≤ e ∧ e ≤ 1000)
  · obtain ⟨⟨h1, h2⟩, ⟨h3, h4⟩, h5, h6⟩ := h
    obtain ⟨d, rfl⟩ := Int.eq_ofNat_of_zero_le h3
    obtain ⟨e, rfl⟩ := Int.eq_ofNat_of_zero_le h5
    have hd : d ≤ 5 := by omega
    have he : e ≤ 1000 := by omega
    rw [prB_in h1 h2 hd he]
    have hx1 := pw_ge h1 (2 ^ d)
    have hx2 := pw_small h1 h2 hd
    have hdb : (2 ^ d : Nat) ≤ 32 := by have : (2 ^ d : Nat) ≤ 2 ^ 5 := Nat.pow_le_pow_right (by decide) hd; omega
    have hcast : ((2 ^ d : Nat) : Int) = (2 : Int) ^ d := by rw [Int.natCast_pow]; rfl
    have hnB : n < pB 60 := by have h4 : (65535 : Int) < pB 60 := by decide +kernel
                               omega
    have HX : Hid (∀ w b v, RdR w b v (digs n) → Calls Try.prog 11 #[v, .int .i64 ((2 : Int) ^ d)] w (MulYes w (digs (n ^ (2 ^ d))))) := Lib.hid (fun w b v hr => hcast ▸ (pow_impl hr h1 hnB (by omega)).mono fun e w' hp => by
      rcases hp with ⟨-, hp⟩ | ⟨hp, -⟩
      · exact hp
      · omega)
    have hd0 : (0 : Int) ≤ (2 : Int) ^ d := by rw [← hcast]; exact Int.natCast_nonneg _
    have hd1 : (2 : Int) ^ d ≤ 32 := by rw [← hcast]; exact Int.ofNat_le.2 hdb
    have hw1 : wrap64 ((2 : Int) ^ d) = (2 : Int) ^ d := by unfold wrap64; omega
    clear hnB hcast
    have hc1 := cmpV_cases (2 ^ e) (n ^ (2 ^ d))
    have hc2 := cmpV_cases (2 ^ (e + 1)) (n ^ (2 ^ d))
    have he1 := pw_ge (a := 2) (by decide) e
    have CM : Hid (∀ w b1 b2 v u (a : Int), RdR w b1 v (digs a) → RdR w b2 u (digs (n ^ (2 ^ d))) → 1 ≤ a → a < pB 60 → Calls Try.prog 13 #[v, u] w fun E w' => E = .returned (.int .i64 (cmpV a (n ^ (2 ^ d)))) ∧ ∃ q, w' = w.drewN q) := Lib.hid (fun w b1 b2 v u a ha hb a1 a2 => cmp_impl ha hb a1 a2 hx1 hx2)
    clear hx1 hx2
    generalize n ^ (2 ^ d) = X at *
    have MUL : Hid (∀ w b1 b2 v u, RdR w b1 v (digs (2 ^ e)) → RdR w b2 u (digs 2) → 2 ^ e < pB 60 → Calls Try.prog 14 #[v, u] w (PwPost w (2 ^ (e + 1)))) := Lib.hid (fun w b1 b2 v u ha hb hl => by
      rw [pw_succ]
      rcases Int.lt_or_le ((2 : Int) ^ e * 2) (pB 60) with hy | hy
      · exact (lmul_yes ha hb he1 hl (by decide) two_lt hy).mono fun _ _ h => .inl ⟨hy, h⟩
      · exact (lmul_no ha hb he1 hl (by decide) two_lt hy).mono fun _ _ h => .inr ⟨hy, h⟩)
    have POW : Hid (∀ w b v, RdR w b v (digs 2) → Calls Try.prog 11 #[v, .int .i64 (e : Int)] w (PwPost w (2 ^ e))) := Lib.hid (fun w b v hr => pow_impl hr (by decide) two_lt he)
    have he3 := pw_ge (a := 2) (by decide) (e + 1)
    have hcs := pr_cases (p := 2 ^ e) (z := 2 ^ (e + 1)) (c1 := cmpV (2 ^ e) X) (c2 := cmpV (2 ^ (e + 1)) X)
    generalize (2 : Int) ^ (e + 1) = Z at *
    generalize (2 : Int) ^ e = Y at *
    generalize (decide (Y < pB 60) && (decide (cmpV Y X ≤ 0) && (!decide (Z < pB 60) || decide (0 < cmpV Z X)))) = br at *
    have C1 := Lib.hid (fun w b1 b2 v u ha hb hl => CM.out w b1 b2 v u Y ha hb he1 hl)
    have C2 := Lib.hid (fun w b1 b2 v u ha hb hl => CM.out w b1 b2 v u Z ha hb he3 hl)
    clear CM
    generalize cmpV Y X = c1 at *
    generalize cmpV Z X = c2 at *
    rcases hcs with ⟨k1, rfl⟩ | ⟨k1, k2, rfl⟩ | ⟨k1, k2, k3, rfl⟩ | ⟨k1, k2, k3, k4, rfl⟩ | ⟨k1, k2, k3, k4, rfl⟩
    · have K1 := Lib.hid k1
      go_enter Try.func5, Try.ntmps5
      go_wp2_with (first | (go_at_call 10; refine (la_yes _ _ _ (by omega) (by omega) (by omega) (by omega)).mono ?_; rintro e w' ⟨rfl, rfl⟩) | (go_at_call 10; refine (la_no _ _ _ (by omega)).mono ?_; rintro e w' ⟨rfl, rfl⟩))
      refine (longof_impl n _ h1 h2).mono ?_
      rintro E w1 ⟨v1, rfl, hr, hb⟩
      have HR := Lib.hid (hr.rd (digs_ne (by omega)))
      have HB := Lib.hid hb
      clear hr hb
      go_wp2_with fail
      refine (HX.out _ _ _ HR.out).mono ?_
      rintro E w2 ⟨v2, rfl, hr, hb⟩
      have HR2 := Lib.hid hr
      have HB := Lib.hid (bl_behind hb HB.out)
      clear hr hb HR HX
      go_wp2_with fail
      refine (longof_impl 2 _ (by omega) (by omega)).mono ?_
      rintro E w3 ⟨v3, rfl, hr, hb⟩
      have HR2 := Lib.hid (HR2.out.below hb)
      have HR3 := Lib.hid (hr.rd (digs_ne (by omega)))
      have HB := Lib.hid (bl_behind hb HB.out)
      clear hr hb
      go_wp2_with fail
      refine (POW.out _ _ _ HR3.out).mono ?_
      rintro E w4 (⟨hy, -⟩ | ⟨-, v4, rfl, hb⟩)
      · exact absurd K1.out (by omega)
      have HB := Lib.hid (bl_behind hb HB.out)
      clear hb
      go_wp2_with fail
      go_ret
      exact ⟨rfl, HB.out⟩
    · have K1 := Lib.hid k1
      go_enter Try.func5, Try.ntmps5
      go_wp2_with (first | (go_at_call 10; refine (la_yes _ _ _ (by omega) (by omega) (by omega) (by omega)).mono ?_; rintro e w' ⟨rfl, rfl⟩) | (go_at_call 10; refine (la_no _ _ _ (by omega)).mono ?_; rintro e w' ⟨rfl, rfl⟩))
      refine (longof_impl n _ h1 h2).mono ?_
      rintro E w1 ⟨v1, rfl, hr, hb⟩
      have HR := Lib.hid (hr.rd (digs_ne (by omega)))
      have HB := Lib.hid hb
      clear hr hb
      go_wp2_with fail
      refine (HX.out _ _ _ HR.out).mono ?_
      rintro E w2 ⟨v2, rfl, hr, hb⟩
      have HR2 := Lib.hid hr
      have HB := Lib.hid (bl_behind hb HB.out)
      clear hr hb HR HX
      go_wp2_with fail
      refine (longof_impl 2 _ (by omega) (by omega)).mono ?_
      rintro E w3 ⟨v3, rfl, hr, hb⟩
      have HR2 := Lib.hid (HR2.out.below hb)
      have HR3 := Lib.hid (hr.rd (digs_ne (by omega)))
      have HB := Lib.hid (bl_behind hb HB.out)
      clear hr hb
      go_wp2_with fail
      refine (POW.out _ _ _ HR3.out).mono ?_
      rintro E w4 (⟨-, v4, rfl, hr, hb⟩ | ⟨hy, -⟩)
      rotate_left
      · exact absurd K1.out (by omega)
      have HR2 := Lib.hid (HR2.out.below hb)
      have HR3 := Lib.hid (HR3.out.below hb)
      have HR4 := Lib.hid hr
      have HB := Lib.hid (bl_behind hb HB.out)
      clear hr hb
      go_wp2_with fail
      refine (C1.out _ _ _ _ _ HR4.out HR2.out K1.out).mono ?_
      rintro E w5 ⟨rfl, q, rfl⟩
      go_wp2_with fail
      go_ret
      exact ⟨rfl, (by have hb := HB.out; repeat' (first | (with_reducible exact Below.refl _ _) | (with_reducible assumption) | (with_reducible refine below_drewN ?_ _) | (with_reducible refine Below.drew ?_) | (with_reducible refine bl_alloc ?_ _) | (with_reducible refine bl_set ?_ ?_ _) | go_size | omega))⟩
    · have K1 := Lib.hid k1
      go_enter Try.func5, Try.ntmps5
      go_wp2_with (first | (go_at_call 10; refine (la_yes _ _ _ (by omega) (by omega) (by omega) (by omega)).mono ?_; rintro e w' ⟨rfl, rfl⟩) | (go_at_call 10; refine (la_no _ _ _ (by omega)).mono ?_; rintro e w' ⟨rfl, rfl⟩))
      refine (longof_impl n _ h1 h2).mono ?_
      rintro E w1 ⟨v1, rfl, hr, hb⟩
      have HR := Lib.hid (hr.rd (digs_ne (by omega)))
      have HB := Lib.hid hb
      clear hr hb
      go_wp2_with fail
      refine (HX.out _ _ _ HR.out).mono ?_
      rintro E w2 ⟨v2, rfl, hr, hb⟩
      have HR2 := Lib.hid hr
      have HB := Lib.hid (bl_behind hb HB.out)
      clear hr hb HR HX
      go_wp2_with fail
      refine (longof_impl 2 _ (by omega) (by omega)).mono ?_
      rintro E w3 ⟨v3, rfl, hr, hb⟩
      have HR2 := Lib.hid (HR2.out.below hb)
      have HR3 := Lib.hid (hr.rd (digs_ne (by omega)))
      have HB := Lib.hid (bl_behind hb HB.out)
      clear hr hb
      go_wp2_with fail
      refine (POW.out _ _ _ HR3.out).mono ?_
      rintro E w4 (⟨-, v4, rfl, hr, hb⟩ | ⟨hy, -⟩)
      rotate_left
      · exact absurd K1.out (by omega)
      have HR2 := Lib.hid (HR2.out.below hb)
      have HR3 := Lib.hid (HR3.out.below hb)
      have HR4 := Lib.hid hr
      have HB := Lib.hid (bl_behind hb HB.out)
      clear hr hb
      go_wp2_with fail
      refine (C1.out _ _ _ _ _ HR4.out HR2.out K1.out).mono ?_
      rintro E w5 ⟨rfl, q, rfl⟩
      go_wp2_with fail
      refine (MUL.out _ _ _ _ _ (HR4.out.drewN _) (HR3.out.drewN _) K1.out).mono ?_
      rintro E w6 (⟨hy, -⟩ | ⟨-, v6, rfl, hb⟩)
      · exact absurd hy (by omega)
      have HB := Lib.hid (bl_behind (undrewN hb) HB.out)
      clear hb
      go_wp2_with fail
      go_ret
      exact ⟨rfl, HB.out⟩
    · have K1 := Lib.hid k1
      go_enter Try.func5, Try.ntmps5
      go_wp2_with (first | (go_at_call 10; refine (la_yes _ _ _ (by omega) (by omega) (by omega) (by omega)).mono ?_; rintro e w' ⟨rfl, rfl⟩) | (go_at_call 10; refine (la_no _ _ _ (by omega)).mono ?_; rintro e w' ⟨rfl, rfl⟩))
      refine (longof_impl n _ h1 h2).mono ?_
      rintro E w1 ⟨v1, rfl, hr, hb⟩
      have HR := Lib.hid (hr.rd (digs_ne (by omega)))
      have HB := Lib.hid hb
      clear hr hb
      go_wp2_with fail
      refine (HX.out _ _ _ HR.out).mono ?_
      rintro E w2 ⟨v2, rfl, hr, hb⟩
      have HR2 := Lib.hid hr
      have HB := Lib.hid (bl_behind hb HB.out)
      clear hr hb HR HX
      go_wp2_with fail
      refine (longof_impl 2 _ (by omega) (by omega)).mono ?_
      rintro E w3 ⟨v3, rfl, hr, hb⟩
      have HR2 := Lib.hid (HR2.out.below hb)
      have HR3 := Lib.hid (hr.rd (digs_ne (by omega)))
      have HB := Lib.hid (bl_behind hb HB.out)
      clear hr hb
      go_wp2_with fail
      refine (POW.out _ _ _ HR3.out).mono ?_
      rintro E w4 (⟨-, v4, rfl, hr, hb⟩ | ⟨hy, -⟩)
      rotate_left
      · exact absurd K1.out (by omega)
      have HR2 := Lib.hid (HR2.out.below hb)
      have HR3 := Lib.hid (HR3.out.below hb)
      have HR4 := Lib.hid hr
      have HB := Lib.hid (bl_behind hb HB.out)
      clear hr hb
      go_wp2_with fail
      refine (C1.out _ _ _ _ _ HR4.out HR2.out K1.out).mono ?_
      rintro E w5 ⟨rfl, q, rfl⟩
      go_wp2_with fail
      refine (MUL.out _ _ _ _ _ (HR4.out.drewN _) (HR3.out.drewN _) K1.out).mono ?_
      rintro E w6 (⟨-, v6, rfl, hr, hb⟩ | ⟨hy, -⟩)
      rotate_left
      · exact absurd hy (by omega)
      have HR2 := Lib.hid ((HR2.out.drewN q).below hb)
      have HR6 := Lib.hid hr
      have HB := Lib.hid (bl_behind (undrewN hb) HB.out)
      clear hr hb
      go_wp2_with fail
      refine (C2.out _ _ _ _ _ HR6.out HR2.out k3).mono ?_
      rintro E w7 ⟨rfl, q2, rfl⟩
      go_wp2_with fail
      go_ret
      exact ⟨ret_bool (by simp <;> omega), (by have hb := HB.out; repeat' (first | (with_reducible exact Below.refl _ _) | (with_reducible assumption) | (with_reducible refine below_drewN ?_ _) | (with_reducible refine Below.drew ?_) | (with_reducible refine bl_alloc ?_ _) | (with_reducible refine bl_set ?_ ?_ _) | go_size | omega))⟩
    · have K1 := Lib.hid k1
      go_enter Try.func5, Try.ntmps5
      go_wp2_with (first | (go_at_call 10; refine (la_yes _ _ _ (by omega) (by omega) (by omega) (by omega)).mono ?_; rintro e w' ⟨rfl, rfl⟩) | (go_at_call 10; refine (la_no _ _ _ (by omega)).mono ?_; rintro e w' ⟨rfl, rfl⟩))
      refine (longof_impl n _ h1 h2).mono ?_
      rintro E w1 ⟨v1, rfl, hr, hb⟩
      have HR := Lib.hid (hr.rd (digs_ne (by omega)))
      have HB := Lib.hid hb
      clear hr hb
      go_wp2_with fail
      refine (HX.out _ _ _ HR.out).mono ?_
      rintro E w2 ⟨v2, rfl, hr, hb⟩
      have HR2 := Lib.hid hr
      have HB := Lib.hid (bl_behind hb HB.out)
      clear hr hb HR HX
      go_wp2_with fail
      refine (longof_impl 2 _ (by omega) (by omega)).mono ?_
      rintro E w3 ⟨v3, rfl, hr, hb⟩
      have HR2 := Lib.hid (HR2.out.below hb)
      have HR3 := Lib.hid (hr.rd (digs_ne (by omega)))
      have HB := Lib.hid (bl_behind hb HB.out)
      clear hr hb
      go_wp2_with fail
      refine (POW.out _ _ _ HR3.out).mono ?_
      rintro E w4 (⟨-, v4, rfl, hr, hb⟩ | ⟨hy, -⟩)
      rotate_left
      · exact absurd K1.out (by omega)
      have HR2 := Lib.hid (HR2.out.below hb)
      have HR3 := Lib.hid (HR3.out.below hb)
      have HR4 := Lib.hid hr
      have HB := Lib.hid (bl_behind hb HB.out)
      clear hr hb
      go_wp2_with fail
      refine (C1.out _ _ _ _ _ HR4.out HR2.out K1.out).mono ?_
      rintro E w5 ⟨rfl, q, rfl⟩
      go_wp2_with fail
      refine (MUL.out _ _ _ _ _ (HR4.out.drewN _) (HR3.out.drewN _) K1.out).mono ?_
      rintro E w6 (⟨-, v6, rfl, hr, hb⟩ | ⟨hy, -⟩)
      rotate_left
      · exact absurd hy (by omega)
      have HR2 := Lib.hid ((HR2.out.drewN q).below hb)
      have HR6 := Lib.hid hr
      have HB := Lib.hid (bl_behind (undrewN hb) HB.out)
      clear hr hb
      go_wp2_with fail
      refine (C2.out _ _ _ _ _ HR6.out HR2.out k3).mono ?_
      rintro E w7 ⟨rfl, q2, rfl⟩
      go_wp2_with fail
      go_ret
      exact ⟨ret_bool (by simp <;> omega), (by have hb := HB.out; repeat' (first | (with_reducible exact Below.refl _ _) | (with_reducible assumption) | (with_reducible refine below_drewN ?_ _) | (with_reducible refine Below.drew ?_) | (with_reducible refine bl_alloc ?_ _) | (with_reducible refine bl_set ?_ ?_ _) | go_size | omega))⟩
  · have hp : (n < 1 ∨ 65535 < n) ∨ ((1 ≤ n ∧ n ≤ 65535) ∧ (d < 0 ∨ 5 < d)) ∨ ((1 ≤ n ∧ n ≤ 65535) ∧ (0 ≤ d ∧ d ≤ 5) ∧ (e < 0 ∨ 1000 < e)) := by omega
    rw [prB_out h]
    clear h
    rcases hp with (h | h) | ⟨⟨h1, h2⟩, (h | h)⟩ | ⟨⟨h1, h2⟩, ⟨h3, h4⟩, (h | h)⟩
    all_goals
      go_enter Try.func5, Try.ntmps5
      go_wp2_with (first | (go_at_call 10; refine (la_yes _ _ _ (by omega) (by omega) (by omega) (by omega)).mono ?_; rintro e w' ⟨rfl, rfl⟩) | (go_at_call 10; refine (la_no _ _ _ (by omega)).mono ?_; rintro e w' ⟨rfl, rfl⟩))
      go_ret
      exact ⟨rfl, (by repeat' (first | (with_reducible exact Below.refl _ _) | (with_reducible assumption) | (with_reducible refine below_drewN ?_ _) | (with_reducible refine Below.drew ?_) | (with_reducible refine bl_alloc ?_ _) | (with_reducible refine bl_set ?_ ?_ _) | go_size | omega))⟩
end Go.Proofs.Ytgjknnacfildiaa
