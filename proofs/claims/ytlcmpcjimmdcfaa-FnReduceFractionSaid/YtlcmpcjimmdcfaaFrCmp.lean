/- CompareFractions. No condition: contracts for the walks of the laws. -/
import Derived.Test.YtlcmpcjimmdcfaaFrac
import Derived.Test.YtlcmpcjimmdcfaaShelf
namespace Go.Proofs.Ytlcmpcjimmdcfaa
open Go.ChangeShapes Go.WideShapes Go.ChangeAt Go.RowKit


attribute [local go_sem] alloc_drewN' setCell_drewN'
def cmpI (x y : Int) : Int := Lib.compareInt x y
theorem cmpI_lt {x y : Int} (h : x < y) : cmpI x y = -1 := by unfold cmpI Lib.compareInt; rw [if_pos h]
theorem cmpI_gt {x y : Int} (h : y < x) : cmpI x y = 1 := by unfold cmpI Lib.compareInt; rw [if_neg (by omega), if_pos h]
theorem cmpI_eq {x y : Int} (h : x = y) : cmpI x y = 0 := by unfold cmpI Lib.compareInt; rw [if_neg (by omega), if_neg (by omega)]
def frCmp (a b c d : Int) : Int × Bool := if frOk a b = true ∧ frOk c d = true then (cmpI (a * d) (c * b), true) else (0, false)
theorem frCmp_in {a b c d : Int} (h1 : frOk a b = true) (h2 : frOk c d = true) : frCmp a b c d = (cmpI (a * d) (c * b), true) := by unfold frCmp; rw [if_pos ⟨h1, h2⟩]
theorem frCmp_out {a b c d : Int} (h : frOk a b = false ∨ frOk c d = false) : frCmp a b c d = (0, false) := by
  unfold frCmp; rw [if_neg]; rintro ⟨h1, h2⟩; simp [h1, h2] at h

set_option maxHeartbeats 1000000 in
theorem frcmp_impl (a b c d : Int) (w : World) : Calls Try.prog 34 #[.agg #[.int .i64 a, .int .i64 b], .agg #[.int .i64 c, .int .i64 d]] w fun e w' => e = .returned (.tuple #[.int .i64 (frCmp a b c d).1, .bool (frCmp a b c d).2]) ∧ Below w.heap.size w w' := by
  obtain ⟨r, hr⟩ : ∃ r, frCmp a b c d = r := ⟨_, rfl⟩
  rw [hr]
  have HR := Lib.hid hr
  clear hr
  by_cases h1 : frOk a b = true
  · by_cases h2 : frOk c d = true
    · obtain ⟨a1, a2, b1, b2, c1, c2, d1, d2, m1, m2, m3, m4, m5, m6, m7, m8⟩ := fr_bds h1 h2
      have hr := HR.out
      rw [frCmp_in h1 h2] at hr
      skip
      all_goals
        skip
        subst hr
        go_enter Try.func34, Try.ntmps34
        go_wp2_with (first | (go_at_call 21; refine (fv_impl _ _ _).mono ?_; rintro e w' ⟨rfl, m, rfl⟩) | (go_at_call 45; refine (Try.cmp_Compare_int _ _ _).mono ?_; rintro e w' ⟨rfl, rfl⟩))
        go_returns
        exact ⟨by first | rfl | (simp; omega), (by repeat' (first | (with_reducible exact Below.refl _ _) | (with_reducible assumption) | (with_reducible refine below_drewN ?_ _) | (with_reducible refine Below.drew ?_) | (with_reducible refine bl_alloc ?_ _) | (with_reducible refine bl_set ?_ ?_ _) | go_size | omega))⟩
    · have h2' : frOk c d = false := by simpa using h2
      have hr := HR.out
      rw [frCmp_out (.inr h2')] at hr
      subst hr
      clear h2
      go_enter Try.func34, Try.ntmps34
      go_wp2_with (first | (go_at_call 21; refine (fv_impl _ _ _).mono ?_; rintro e w' ⟨rfl, m, rfl⟩) | (go_at_call 45; refine (Try.cmp_Compare_int _ _ _).mono ?_; rintro e w' ⟨rfl, rfl⟩))
      go_returns
      exact ⟨rfl, (by repeat' (first | (with_reducible exact Below.refl _ _) | (with_reducible assumption) | (with_reducible refine below_drewN ?_ _) | (with_reducible refine Below.drew ?_) | (with_reducible refine bl_alloc ?_ _) | (with_reducible refine bl_set ?_ ?_ _) | go_size | omega))⟩
  · have h1' : frOk a b = false := by simpa using h1
    have hr := HR.out
    rw [frCmp_out (.inl h1')] at hr
    subst hr
    clear h1
    go_enter Try.func34, Try.ntmps34
    go_wp2_with (first | (go_at_call 21; refine (fv_impl _ _ _).mono ?_; rintro e w' ⟨rfl, m, rfl⟩) | (go_at_call 45; refine (Try.cmp_Compare_int _ _ _).mono ?_; rintro e w' ⟨rfl, rfl⟩))
    go_returns
    exact ⟨rfl, (by repeat' (first | (with_reducible exact Below.refl _ _) | (with_reducible assumption) | (with_reducible refine below_drewN ?_ _) | (with_reducible refine Below.drew ?_) | (with_reducible refine bl_alloc ?_ _) | (with_reducible refine bl_set ?_ ?_ _) | go_size | omega))⟩

set_option maxHeartbeats 1000000 in
theorem frcmp_spec (a b c d : Int) (w : World) : Calls Try.prog 33 #[.agg #[.int .i64 a, .int .i64 b], .agg #[.int .i64 c, .int .i64 d]] w fun e w' => e = .returned (.tuple #[.int .i64 (frCmp a b c d).1, .bool (frCmp a b c d).2]) ∧ Below w.heap.size w w' := by
  obtain ⟨r, hr⟩ : ∃ r, frCmp a b c d = r := ⟨_, rfl⟩
  rw [hr]
  have HR := Lib.hid hr
  clear hr
  by_cases h1 : frOk a b = true
  · by_cases h2 : frOk c d = true
    · obtain ⟨a1, a2, b1, b2, c1, c2, d1, d2, m1, m2, m3, m4, m5, m6, m7, m8⟩ := fr_bds h1 h2
      have hr := HR.out
      rw [frCmp_in h1 h2] at hr
      rcases Int.lt_trichotomy (a * d) (c * b) with h | h | h
      all_goals
        first | rw [cmpI_lt h] at hr | rw [cmpI_gt h] at hr | rw [cmpI_eq h] at hr
        subst hr
        go_enter Try.func33, Try.ntmps33
        go_wp2_with (first | (go_at_call 19; refine (fv_spec _ _ _).mono ?_; rintro e w' ⟨rfl, m, rfl⟩))
        go_returns
        exact ⟨by first | rfl | (simp; omega), (by repeat' (first | (with_reducible exact Below.refl _ _) | (with_reducible assumption) | (with_reducible refine below_drewN ?_ _) | (with_reducible refine Below.drew ?_) | (with_reducible refine bl_alloc ?_ _) | (with_reducible refine bl_set ?_ ?_ _) | go_size | omega))⟩
    · have h2' : frOk c d = false := by simpa using h2
      have hr := HR.out
      rw [frCmp_out (.inr h2')] at hr
      subst hr
      clear h2
      go_enter Try.func33, Try.ntmps33
      go_wp2_with (first | (go_at_call 19; refine (fv_spec _ _ _).mono ?_; rintro e w' ⟨rfl, m, rfl⟩))
      go_returns
      exact ⟨rfl, (by repeat' (first | (with_reducible exact Below.refl _ _) | (with_reducible assumption) | (with_reducible refine below_drewN ?_ _) | (with_reducible refine Below.drew ?_) | (with_reducible refine bl_alloc ?_ _) | (with_reducible refine bl_set ?_ ?_ _) | go_size | omega))⟩
  · have h1' : frOk a b = false := by simpa using h1
    have hr := HR.out
    rw [frCmp_out (.inl h1')] at hr
    subst hr
    clear h1
    go_enter Try.func33, Try.ntmps33
    go_wp2_with (first | (go_at_call 19; refine (fv_spec _ _ _).mono ?_; rintro e w' ⟨rfl, m, rfl⟩))
    go_returns
    exact ⟨rfl, (by repeat' (first | (with_reducible exact Below.refl _ _) | (with_reducible assumption) | (with_reducible refine below_drewN ?_ _) | (with_reducible refine Below.drew ?_) | (with_reducible refine bl_alloc ?_ _) | (with_reducible refine bl_set ?_ ?_ _) | go_size | omega))⟩

end Go.Proofs.Ytlcmpcjimmdcfaa
