/- Powers as long numbers tell: the reference's PowersRight. No condition: contract for the walk of the law. -/
import Derived.Test.YtgjknnacfildiaaLgY
namespace Go.Proofs.Ytgjknnacfildiaa
open Go.ChangeShapes Go.WideShapes Go.ChangeAt Go.RowKit


theorem RdR.two (w : World) : RdR (w.alloc (.cells #[.int .i64 2] 3)) w.heap.size (.slice (some ⟨w.heap.size, 0, none⟩) 1 1) (digs 2) := by
  rw [digs_two]; exact RdR.lit w _ (Nat.le_refl _) 2
set_option maxHeartbeats 16000000 in
theorem pr_spec (n d e : Int) (w : World) : Calls Try.prog 4 #[.int .i64 n, .int .i64 d, .int .i64 e] w fun E w' => E = .returned (.bool (prB n d e)) ∧ Below w.heap.size w w' := by
  by_cases h : (1 ≤ n ∧ n ≤ 65535) ∧ (0 ≤ d ∧ d ≤ 5) ∧ (0 ≤ e ∧ e ≤ 1000)
  · obtain ⟨⟨h1, h2⟩, ⟨h3, h4⟩, h5, h6⟩ := h
    obtain ⟨d, rfl⟩ := Int.eq_ofNat_of_zero_le h3
    obtain ⟨e, rfl⟩ := Int.eq_ofNat_of_zero_le h5
    have hd : d ≤ 5 := by omega
    have he : e ≤ 1000 := by omega
    rw [prB_in h1 h2 hd he]
    have hx1 := pw_ge h1 (2 ^ d)
    have hx2 := pw_small h1 h2 hd
    have LLC := Lib.hid (fun w => l11_any n d w h1 h2 hd)
    have he1 := pw_ge (a := 2) (by decide) e
    have CM : Hid (∀ w b1 b2 v u (a : Int), RdR w b1 v (digs a) → RdR w b2 u (digs (n ^ (2 ^ d))) → 1 ≤ a → a < pB 60 → Calls Try.prog 9 #[v, u] w fun E w' => E = .returned (.int .i64 (cmpV a (n ^ (2 ^ d)))) ∧ ∃ q, w' = w.drewN q) := Lib.hid (fun w b1 b2 v u a ha hb a1 a2 => cmp_spec ha hb a1 a2 hx1 hx2)
    clear hx1 hx2
    generalize n ^ (2 ^ d) = X at *
    have POW : Hid (∀ w b v, RdR w b v (digs 2) → Calls Try.prog 8 #[v, .int .i64 (e : Int)] w (PwPost w (2 ^ e))) := Lib.hid (fun w b v hr => pow_spec hr (by decide) two_lt he)
    have POW2 : Hid (∀ w b v, RdR w b v (digs 2) → Calls Try.prog 8 #[v, .int .i64 ((e : Int) + 1)] w (PwPost w (2 ^ (e + 1)))) := Lib.hid (fun w b v hr => by
      rcases Nat.lt_or_ge e 1000 with hl | hl
      · exact pow_spec (ex := e + 1) hr (by decide) two_lt (by omega)
      · have : e = 1000 := by omega
        subst this
        exact (pow_spec_big hr (by decide) two_lt).mono fun _ _ h => .inr ⟨by decide +kernel, h⟩)
    have he3 := pw_ge (a := 2) (by decide) (e + 1)
    have hcs := pr_cases (p := 2 ^ e) (z := 2 ^ (e + 1)) (c1 := cmpV (2 ^ e) X) (c2 := cmpV (2 ^ (e + 1)) X)
    generalize (2 : Int) ^ (e + 1) = Z at *
    generalize (2 : Int) ^ e = Y at *
    generalize (decide (Y < pB 60) && (decide (cmpV Y X ≤ 0) && (!decide (Z < pB 60) || decide (0 < cmpV Z X)))) = br at *
    have C1 := Lib.hid (fun w b1 b2 v u ha hb hl => CM.out w b1 b2 v u Y ha hb he1 hl)
    have C2 := Lib.hid (fun w b1 b2 v u ha hb hl => CM.out w b1 b2 v u Z ha hb he3 hl)
    clear CM
    generalize cmpV Y X = c1 at *
    generalize cmpV Z X = c2 at *
    rcases hcs with ⟨k1, rfl⟩ | ⟨k1, k2, rfl⟩ | ⟨k1, k2, k3, rfl⟩ | ⟨k1, k2, k3, k4, rfl⟩ | ⟨k1, k2, k3, k4, rfl⟩
    · have K1 := Lib.hid k1
      go_enter Try.func4, Try.ntmps4
      go_wp2_with (first | (go_at_call 6; refine (l1in_yes _ _ _ _ (by omega) (by omega)).mono ?_; rintro e w' ⟨rfl, rfl⟩) | (go_at_call 6; refine (l1in_no _ _ _ _ (by omega)).mono ?_; rintro e w' ⟨rfl, rfl⟩))
      refine (LLC.out _).mono ?_
      rintro E w1 ⟨v1, rfl, hr, hb⟩
      have HR := Lib.hid (hr.alloc (.cells #[.int .i64 2] 3))
      have HB := Lib.hid (bl_alloc hb (.cells #[.int .i64 2] 3))
      have HT := Lib.hid (RdR.two w1)
      clear hr hb LLC
      go_wp2_with fail
      refine (POW.out _ _ _ HT.out).mono ?_
      rintro E w2 (⟨hy, -⟩ | ⟨-, v2, rfl, hb⟩)
      · exact absurd K1.out (by omega)
      have HR := Lib.hid ((HR.out.below hb).alloc (.cells #[.int .i64 2] 3))
      have HB := Lib.hid (bl_alloc (bl_behind hb HB.out) (.cells #[.int .i64 2] 3))
      have HT := Lib.hid (RdR.two w2)
      clear hb
      go_wp2_with fail
      refine (POW2.out _ _ _ HT.out).mono ?_
      rintro E w3 (⟨-, v3, rfl, hr, hb⟩ | ⟨-, v3, rfl, hb⟩)
      all_goals
        have HB := Lib.hid (bl_behind hb HB.out)
        clear hb
        go_wp2_with fail
        go_ret
        exact ⟨rfl, HB.out⟩
    · have K1 := Lib.hid k1
      go_enter Try.func4, Try.ntmps4
      go_wp2_with (first | (go_at_call 6; refine (l1in_yes _ _ _ _ (by omega) (by omega)).mono ?_; rintro e w' ⟨rfl, rfl⟩) | (go_at_call 6; refine (l1in_no _ _ _ _ (by omega)).mono ?_; rintro e w' ⟨rfl, rfl⟩))
      refine (LLC.out _).mono ?_
      rintro E w1 ⟨v1, rfl, hr, hb⟩
      have HR := Lib.hid (hr.alloc (.cells #[.int .i64 2] 3))
      have HB := Lib.hid (bl_alloc hb (.cells #[.int .i64 2] 3))
      have HT := Lib.hid (RdR.two w1)
      clear hr hb LLC
      go_wp2_with fail
      refine (POW.out _ _ _ HT.out).mono ?_
      rintro E w2 (⟨-, v2, rfl, hr, hb⟩ | ⟨hy, -⟩)
      rotate_left
      · exact absurd K1.out (by omega)
      have HR := Lib.hid ((HR.out.below hb).alloc (.cells #[.int .i64 2] 3))
      have HB := Lib.hid (bl_alloc (bl_behind hb HB.out) (.cells #[.int .i64 2] 3))
      have HT := Lib.hid (RdR.two w2)
      have HL := Lib.hid (hr.alloc (.cells #[.int .i64 2] 3))
      clear hb hr
      go_wp2_with fail
      refine (POW2.out _ _ _ HT.out).mono ?_
      rintro E w3 (⟨-, v3, rfl, hr, hb⟩ | ⟨-, v3, rfl, hb⟩)
      all_goals
        have HR := Lib.hid (HR.out.below hb)
        have HL := Lib.hid (HL.out.below hb)
        have HB := Lib.hid (bl_behind hb HB.out)
        clear hb
        go_wp2_with fail
        refine (C1.out _ _ _ _ _ HL.out HR.out K1.out).mono ?_
        rintro E w5 ⟨rfl, q, rfl⟩
        go_wp2_with fail
        go_ret
        exact ⟨ret_bool (by simp <;> omega), (by have hb := HB.out; repeat' (first | (with_reducible exact Below.refl _ _) | (with_reducible assumption) | (with_reducible refine below_drewN ?_ _) | (with_reducible refine Below.drew ?_) | (with_reducible refine bl_alloc ?_ _) | (with_reducible refine bl_set ?_ ?_ _) | go_size | omega))⟩
    · have K1 := Lib.hid k1
      go_enter Try.func4, Try.ntmps4
      go_wp2_with (first | (go_at_call 6; refine (l1in_yes _ _ _ _ (by omega) (by omega)).mono ?_; rintro e w' ⟨rfl, rfl⟩) | (go_at_call 6; refine (l1in_no _ _ _ _ (by omega)).mono ?_; rintro e w' ⟨rfl, rfl⟩))
      refine (LLC.out _).mono ?_
      rintro E w1 ⟨v1, rfl, hr, hb⟩
      have HR := Lib.hid (hr.alloc (.cells #[.int .i64 2] 3))
      have HB := Lib.hid (bl_alloc hb (.cells #[.int .i64 2] 3))
      have HT := Lib.hid (RdR.two w1)
      clear hr hb LLC
      go_wp2_with fail
      refine (POW.out _ _ _ HT.out).mono ?_
      rintro E w2 (⟨-, v2, rfl, hr, hb⟩ | ⟨hy, -⟩)
      rotate_left
      · exact absurd K1.out (by omega)
      have HR := Lib.hid ((HR.out.below hb).alloc (.cells #[.int .i64 2] 3))
      have HB := Lib.hid (bl_alloc (bl_behind hb HB.out) (.cells #[.int .i64 2] 3))
      have HT := Lib.hid (RdR.two w2)
      have HL := Lib.hid (hr.alloc (.cells #[.int .i64 2] 3))
      clear hb hr
      go_wp2_with fail
      refine (POW2.out _ _ _ HT.out).mono ?_
      rintro E w3 (⟨hy, -⟩ | ⟨-, v3, rfl, hb⟩)
      · exact absurd hy (by omega)
      have HR := Lib.hid (HR.out.below hb)
      have HL := Lib.hid (HL.out.below hb)
      have HB := Lib.hid (bl_behind hb HB.out)
      clear hb
      go_wp2_with fail
      refine (C1.out _ _ _ _ _ HL.out HR.out K1.out).mono ?_
      rintro E w5 ⟨rfl, q, rfl⟩
      go_wp2_with fail
      go_ret
      exact ⟨ret_bool (by simp <;> omega), (by have hb := HB.out; repeat' (first | (with_reducible exact Below.refl _ _) | (with_reducible assumption) | (with_reducible refine below_drewN ?_ _) | (with_reducible refine Below.drew ?_) | (with_reducible refine bl_alloc ?_ _) | (with_reducible refine bl_set ?_ ?_ _) | go_size | omega))⟩
    · have K1 := Lib.hid k1
      go_enter Try.func4, Try.ntmps4
      go_wp2_with (first | (go_at_call 6; refine (l1in_yes _ _ _ _ (by omega) (by omega)).mono ?_; rintro e w' ⟨rfl, rfl⟩) | (go_at_call 6; refine (l1in_no _ _ _ _ (by omega)).mono ?_; rintro e w' ⟨rfl, rfl⟩))
      refine (LLC.out _).mono ?_
      rintro E w1 ⟨v1, rfl, hr, hb⟩
      have HR := Lib.hid (hr.alloc (.cells #[.int .i64 2] 3))
      have HB := Lib.hid (bl_alloc hb (.cells #[.int .i64 2] 3))
      have HT := Lib.hid (RdR.two w1)
      clear hr hb LLC
      go_wp2_with fail
      refine (POW.out _ _ _ HT.out).mono ?_
      rintro E w2 (⟨-, v2, rfl, hr, hb⟩ | ⟨hy, -⟩)
      rotate_left
      · exact absurd K1.out (by omega)
      have HR := Lib.hid ((HR.out.below hb).alloc (.cells #[.int .i64 2] 3))
      have HB := Lib.hid (bl_alloc (bl_behind hb HB.out) (.cells #[.int .i64 2] 3))
      have HT := Lib.hid (RdR.two w2)
      have HL := Lib.hid (hr.alloc (.cells #[.int .i64 2] 3))
      clear hb hr
      go_wp2_with fail
      refine (POW2.out _ _ _ HT.out).mono ?_
      rintro E w3 (⟨-, v3, rfl, hr, hb⟩ | ⟨hy, -⟩)
      rotate_left
      · exact absurd hy (by omega)
      have HR := Lib.hid (HR.out.below hb)
      have HL := Lib.hid (HL.out.below hb)
      have HH := Lib.hid hr
      have HB := Lib.hid (bl_behind hb HB.out)
      clear hb hr
      go_wp2_with fail
      refine (C1.out _ _ _ _ _ HL.out HR.out K1.out).mono ?_
      rintro E w5 ⟨rfl, q, rfl⟩
      go_wp2_with fail
      refine (C2.out _ _ _ _ _ (HH.out.drewN _) (HR.out.drewN _) k3).mono ?_
      rintro E w7 ⟨rfl, q2, rfl⟩
      go_wp2_with fail
      go_ret
      exact ⟨ret_bool (by simp <;> omega), (by have hb := HB.out; repeat' (first | (with_reducible exact Below.refl _ _) | (with_reducible assumption) | (with_reducible refine below_drewN ?_ _) | (with_reducible refine Below.drew ?_) | (with_reducible refine bl_alloc ?_ _) | (with_reducible refine bl_set ?_ ?_ _) | go_size | omega))⟩
    · have K1 := Lib.hid k1
      go_enter Try.func4, Try.ntmps4
      go_wp2_with (first | (go_at_call 6; refine (l1in_yes _ _ _ _ (by omega) (by omega)).mono ?_; rintro e w' ⟨rfl, rfl⟩) | (go_at_call 6; refine (l1in_no _ _ _ _ (by omega)).mono ?_; rintro e w' ⟨rfl, rfl⟩))
      refine (LLC.out _).mono ?_
      rintro E w1 ⟨v1, rfl, hr, hb⟩
      have HR := Lib.hid (hr.alloc (.cells #[.int .i64 2] 3))
      have HB := Lib.hid (bl_alloc hb (.cells #[.int .i64 2] 3))
      have HT := Lib.hid (RdR.two w1)
      clear hr hb LLC
      go_wp2_with fail
      refine (POW.out _ _ _ HT.out).mono ?_
      rintro E w2 (⟨-, v2, rfl, hr, hb⟩ | ⟨hy, -⟩)
      rotate_left
      · exact absurd K1.out (by omega)
      have HR := Lib.hid ((HR.out.below hb).alloc (.cells #[.int .i64 2] 3))
      have HB := Lib.hid (bl_alloc (bl_behind hb HB.out) (.cells #[.int .i64 2] 3))
      have HT := Lib.hid (RdR.two w2)
      have HL := Lib.hid (hr.alloc (.cells #[.int .i64 2] 3))
      clear hb hr
      go_wp2_with fail
      refine (POW2.out _ _ _ HT.out).mono ?_
      rintro E w3 (⟨-, v3, rfl, hr, hb⟩ | ⟨hy, -⟩)
      rotate_left
      · exact absurd hy (by omega)
      have HR := Lib.hid (HR.out.below hb)
      have HL := Lib.hid (HL.out.below hb)
      have HH := Lib.hid hr
      have HB := Lib.hid (bl_behind hb HB.out)
      clear hb hr
      go_wp2_with fail
      refine (C1.out _ _ _ _ _ HL.out HR.out K1.out).mono ?_
      rintro E w5 ⟨rfl, q, rfl⟩
      go_wp2_with fail
      refine (C2.out _ _ _ _ _ (HH.out.drewN _) (HR.out.drewN _) k3).mono ?_
      rintro E w7 ⟨rfl, q2, rfl⟩
      go_wp2_with fail
      go_ret
      exact ⟨ret_bool (by simp <;> omega), (by have hb := HB.out; repeat' (first | (with_reducible exact Below.refl _ _) | (with_reducible assumption) | (with_reducible refine below_drewN ?_ _) | (with_reducible refine Below.drew ?_) | (with_reducible refine bl_alloc ?_ _) | (with_reducible refine bl_set ?_ ?_ _) | go_size | omega))⟩
  · have hp : (n < 1 ∨ 65535 < n) ∨ ((1 ≤ n ∧ n ≤ 65535) ∧ (d < 0 ∨ 5 < d)) ∨ ((1 ≤ n ∧ n ≤ 65535) ∧ (0 ≤ d ∧ d ≤ 5) ∧ (e < 0 ∨ 1000 < e)) := by omega
    rw [prB_out h]
    clear h
    rcases hp with (h | h) | ⟨⟨h1, h2⟩, (h | h)⟩ | ⟨⟨h1, h2⟩, ⟨h3, h4⟩, (h | h)⟩
    all_goals
      go_enter Try.func4, Try.ntmps4
      go_wp2_with (first | (go_at_call 6; refine (l1in_yes _ _ _ _ (by omega) (by omega)).mono ?_; rintro e w' ⟨rfl, rfl⟩) | (go_at_call 6; refine (l1in_no _ _ _ _ (by omega)).mono ?_; rintro e w' ⟨rfl, rfl⟩))
      go_ret
      exact ⟨rfl, (by repeat' (first | (with_reducible exact Below.refl _ _) | (with_reducible assumption) | (with_reducible refine below_drewN ?_ _) | (with_reducible refine Below.drew ?_) | (with_reducible refine bl_alloc ?_ _) | (with_reducible refine bl_set ?_ ?_ _) | go_size | omega))⟩
end Go.Proofs.Ytgjknnacfildiaa
