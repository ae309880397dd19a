/- Fractions as spans and as stored numbers. No condition: contracts for the walks of the laws. -/
import Derived.Test.YtpecffijmamddaaFo
import Derived.Test.YtpecffijmamddaaSpan
namespace Go.Proofs.Ytpecffijmamddaa
open Go.ChangeShapes Go.WideShapes Go.ChangeAt Go.RowKit

set_option maxHeartbeats 2000000 in
theorem fo_impl_out (p q a d : Int) (w : World) (h : ¬ (fmtB p q = true ∧ -1099511627776 ≤ a ∧ a ≤ 1099511627776 ∧ 1 ≤ d ∧ d ≤ 1099511627776)) :
    Calls Try.prog 28 #[.agg #[.int .i64 p, .int .i64 q], .int .i64 a, .int .i64 d] w fun e w' => e = .returned (.tuple #[.int .i64 0, .bool false]) ∧ Below w.heap.size w w' := by
  cases hv : fmtB p q
  · clear h
    go_enter Try.func28, Try.ntmps28
    go_wp2_with (first | (go_at_call 56; refine (fmvb_impl hv _).mono ?_; rintro e w' ⟨rfl, mm, rfl⟩) | (go_at_call 34; refine (within_yes _ _ _ (by omega) (by omega) (by omega) (by omega)).mono ?_; rintro e w' ⟨rfl, rfl⟩) | (go_at_call 34; refine (within_no _ _ _ (by omega) (by omega) (by omega)).mono ?_; rintro e w' ⟨rfl, rfl⟩))
    go_ret2
    exact ⟨rfl, (by repeat' (first | (with_reducible exact Below.refl _ _) | (with_reducible assumption) | (with_reducible refine below_drewN ?_ _) | (with_reducible refine Below.drew ?_) | (with_reducible refine bl_alloc ?_ _) | (with_reducible refine bl_set ?_ ?_ _) | go_size | omega))⟩
  · have h' : ¬ (-1099511627776 ≤ a ∧ a ≤ 1099511627776 ∧ 1 ≤ d ∧ d ≤ 1099511627776) := fun k => h ⟨hv, k⟩
    clear h
    rcases (by omega : (a < -1099511627776 ∨ 1099511627776 < a) ∨ (-1099511627776 ≤ a ∧ a ≤ 1099511627776 ∧ d < 1) ∨ (-1099511627776 ≤ a ∧ a ≤ 1099511627776 ∧ 1 ≤ d ∧ 1099511627776 < d)) with h1 | ⟨h1, h2, h3⟩ | ⟨h1, h2, h3, h4⟩
    all_goals
      clear h'
      go_enter Try.func28, Try.ntmps28
      go_wp2_with (first | (go_at_call 56; refine (fmvb_impl hv _).mono ?_; rintro e w' ⟨rfl, mm, rfl⟩) | (go_at_call 34; refine (within_yes _ _ _ (by omega) (by omega) (by omega) (by omega)).mono ?_; rintro e w' ⟨rfl, rfl⟩) | (go_at_call 34; refine (within_no _ _ _ (by omega) (by omega) (by omega)).mono ?_; rintro e w' ⟨rfl, rfl⟩))
      go_ret2
      exact ⟨rfl, (by repeat' (first | (with_reducible exact Below.refl _ _) | (with_reducible assumption) | (with_reducible refine below_drewN ?_ _) | (with_reducible refine Below.drew ?_) | (with_reducible refine bl_alloc ?_ _) | (with_reducible refine bl_set ?_ ?_ _) | go_size | omega))⟩
set_option maxHeartbeats 2000000 in
theorem fo_spec_out (p q a d : Int) (w : World) (h : ¬ (fmtB p q = true ∧ -1099511627776 ≤ a ∧ a ≤ 1099511627776 ∧ 1 ≤ d ∧ d ≤ 1099511627776)) :
    Calls Try.prog 29 #[.agg #[.int .i64 p, .int .i64 q], .int .i64 a, .int .i64 d] w fun e w' => e = .returned (.tuple #[.int .i64 0, .bool false]) ∧ Below w.heap.size w w' := by
  cases hv : fmtB p q
  · clear h
    go_enter Try.func29, Try.ntmps29
    go_wp2_with (first | (go_at_call 52; refine (fmvb_spec hv _).mono ?_; rintro e w' ⟨rfl, mm, rfl⟩) | (go_at_call 33; refine (l1in_yes _ _ _ _ (by omega) (by omega)).mono ?_; rintro e w' ⟨rfl, rfl⟩) | (go_at_call 33; refine (l1in_no _ _ _ _ (by omega)).mono ?_; rintro e w' ⟨rfl, rfl⟩))
    go_ret2
    exact ⟨rfl, (by repeat' (first | (with_reducible exact Below.refl _ _) | (with_reducible assumption) | (with_reducible refine below_drewN ?_ _) | (with_reducible refine Below.drew ?_) | (with_reducible refine bl_alloc ?_ _) | (with_reducible refine bl_set ?_ ?_ _) | go_size | omega))⟩
  · have h' : ¬ (-1099511627776 ≤ a ∧ a ≤ 1099511627776 ∧ 1 ≤ d ∧ d ≤ 1099511627776) := fun k => h ⟨hv, k⟩
    clear h
    rcases (by omega : (a < -1099511627776 ∨ 1099511627776 < a) ∨ (-1099511627776 ≤ a ∧ a ≤ 1099511627776 ∧ d < 1) ∨ (-1099511627776 ≤ a ∧ a ≤ 1099511627776 ∧ 1 ≤ d ∧ 1099511627776 < d)) with h1 | ⟨h1, h2, h3⟩ | ⟨h1, h2, h3, h4⟩
    all_goals
      clear h'
      go_enter Try.func29, Try.ntmps29
      go_wp2_with (first | (go_at_call 52; refine (fmvb_spec hv _).mono ?_; rintro e w' ⟨rfl, mm, rfl⟩) | (go_at_call 33; refine (l1in_yes _ _ _ _ (by omega) (by omega)).mono ?_; rintro e w' ⟨rfl, rfl⟩) | (go_at_call 33; refine (l1in_no _ _ _ _ (by omega)).mono ?_; rintro e w' ⟨rfl, rfl⟩))
      go_ret2
      exact ⟨rfl, (by repeat' (first | (with_reducible exact Below.refl _ _) | (with_reducible assumption) | (with_reducible refine below_drewN ?_ _) | (with_reducible refine Below.drew ?_) | (with_reducible refine bl_alloc ?_ _) | (with_reducible refine bl_set ?_ ?_ _) | go_size | omega))⟩
set_option maxHeartbeats 1000000 in
theorem ck_impl (a b : Int) (w : World) : Calls Try.prog 60 #[.agg #[.int .i64 a, .int .i64 b]] w fun e w' => ((spB a b = true ∧ e = .returned (.tuple #[.agg #[.int .i64 a, .int .i64 b], .bool true])) ∨ (spB a b = false ∧ e = .returned (.tuple #[.agg #[.int .i64 0, .int .i64 0], .bool false]))) ∧ Below w.heap.size w w' := by
  cases hs : spB a b
  · go_enter Try.func60, Try.ntmps60
    go_wp2_with fail
    refine (spvb_impl hs _).mono ?_
    rintro e w1 ⟨rfl, mm, rfl⟩
    go_wp2_with fail
    refine bodyPost_ret (v := .tuple #[.agg #[.int .i64 0, .int .i64 0], .bool false]) (by simp [results, Try.results60, go_sem]) rfl ?_
    exact ⟨.inr ⟨by first | trivial | rfl | simp, rfl⟩, (by repeat' (first | (with_reducible exact Below.refl _ _) | (with_reducible assumption) | (with_reducible refine below_drewN ?_ _) | (with_reducible refine Below.drew ?_) | (with_reducible refine bl_alloc ?_ _) | (with_reducible refine bl_set ?_ ?_ _) | go_size | omega))⟩
  · go_enter Try.func60, Try.ntmps60
    go_wp2_with fail
    refine (spvb_impl hs _).mono ?_
    rintro e w1 ⟨rfl, mm, rfl⟩
    go_wp2_with fail
    refine bodyPost_ret (v := .tuple #[.agg #[.int .i64 a, .int .i64 b], .bool true]) (by simp [results, Try.results60, go_sem]) rfl ?_
    exact ⟨.inl ⟨by first | trivial | rfl | simp, rfl⟩, (by repeat' (first | (with_reducible exact Below.refl _ _) | (with_reducible assumption) | (with_reducible refine below_drewN ?_ _) | (with_reducible refine Below.drew ?_) | (with_reducible refine bl_alloc ?_ _) | (with_reducible refine bl_set ?_ ?_ _) | go_size | omega))⟩
set_option maxHeartbeats 1000000 in
theorem cd_impl (a b : Int) (w : World) (h1 : -1152921504606846976 ≤ a) (h2 : a ≤ 1152921504606846976) (h3 : 1 ≤ b) (h4 : b ≤ 1152921504606846976) : Calls Try.prog 59 #[.int .i64 a, .int .i64 b] w fun e w' => e = .returned (.int .i64 (-(-a / b))) ∧ w = w' := by
  obtain ⟨e1, e2⟩ := ediv_abs (a := -a) (b := b) (M := 1152921504606846976) h3 (by omega) (by omega) (by omega)
  go_enter Try.func59, Try.ntmps59
  go_wp2_with (first | (go_at_call 43; refine (floordiv_any _ _ _ (by omega) (by omega) (by omega) (by omega)).mono ?_; rintro e w' ⟨rfl, rfl⟩))
  go_ret
  exact ⟨rfl, rfl⟩
/-- What FractionSpan leaves. -/
def FsPost (a d : Int) (w : World) (e : Ending) (w' : World) : Prop := ∃ (lo hi : Int) (o : Bool), e = .returned (.tuple #[.agg #[.int .i64 lo, .int .i64 hi], .bool o]) ∧ (o = true → 1 ≤ d ∧ lo = a * 268435456 / d ∧ hi = -(-(a * 268435456) / d)) ∧ Below w.heap.size w w'
set_option maxHeartbeats 2000000 in
theorem fs_impl (a d : Int) (w : World) (ha0 : -1152921504606846976 ≤ a) (ha1 : a ≤ 1152921504606846976) : Calls Try.prog 30 #[.int .i64 a, .int .i64 d] w (FsPost a d w) := by
  rcases (by omega : (-1073741824 ≤ a ∧ a ≤ 1073741824 ∧ 1 ≤ d ∧ d ≤ 1073741824) ∨ (a < -1073741824 ∨ 1073741824 < a) ∨ (-1073741824 ≤ a ∧ a ≤ 1073741824 ∧ d < 1) ∨ (-1073741824 ≤ a ∧ a ≤ 1073741824 ∧ 1 ≤ d ∧ 1073741824 < d)) with ⟨h1, h2, h3, h4⟩ | h1 | ⟨h1, h2, h3⟩ | ⟨h1, h2, h3, h4⟩
  · go_enter Try.func30, Try.ntmps30
    go_wp2_with (first | (go_at_call 34; refine (within_yes _ _ _ (by omega) (by omega) (by omega) (by omega)).mono ?_; rintro e w' ⟨rfl, rfl⟩) | (go_at_call 34; refine (within_no _ _ _ (by omega) (by omega) (by omega)).mono ?_; rintro e w' ⟨rfl, rfl⟩) | (go_at_call 43; refine (floordiv_any _ _ _ (by omega) (by omega) (by omega) (by omega)).mono ?_; rintro e w' ⟨rfl, rfl⟩) | (go_at_call 59; refine (cd_impl _ _ _ (by omega) (by omega) (by omega) (by omega)).mono ?_; rintro e w' ⟨rfl, rfl⟩))
    refine (ck_impl _ _ _).mono ?_
    rintro e w1 ⟨ho, hb⟩
    have bz := (Blk.new w 34 #[.int .i64 0, .int .i64 0]).below hb (by simp)
    obtain ⟨d0, d1, d2, d3, lz⟩ := blk2 bz
    have HB := Lib.hid (unalloc hb)
    clear hb bz
    rcases ho with ⟨hs, rfl⟩ | ⟨hs, rfl⟩
    · go_wp2_with fail
      refine bodyPost_ret (v := .tuple #[.agg #[.int .i64 (a * 268435456 / d), .int .i64 (-(-(a * 268435456) / d))], .bool true]) (by simp [results, Try.results30, go_sem, d0, d1]) rfl ?_
      have hb := HB.out
      exact ⟨_, _, true, rfl, fun _ => ⟨h3, rfl, rfl⟩, (by repeat' (first | (with_reducible exact Below.refl _ _) | (with_reducible assumption) | (with_reducible refine below_drewN ?_ _) | (with_reducible refine Below.drew ?_) | (with_reducible refine bl_alloc ?_ _) | (with_reducible refine bl_set ?_ ?_ _) | go_size | omega))⟩
    · go_wp2_with fail
      refine bodyPost_ret (v := .tuple #[.agg #[.int .i64 0, .int .i64 0], .bool false]) (by simp [results, Try.results30, go_sem, d0, d1]) rfl ?_
      have hb := HB.out
      exact ⟨_, _, false, rfl, fun h => (by cases h), (by repeat' (first | (with_reducible exact Below.refl _ _) | (with_reducible assumption) | (with_reducible refine below_drewN ?_ _) | (with_reducible refine Below.drew ?_) | (with_reducible refine bl_alloc ?_ _) | (with_reducible refine bl_set ?_ ?_ _) | go_size | omega))⟩
  all_goals
    go_enter Try.func30, Try.ntmps30
    go_wp2_with (first | (go_at_call 34; refine (within_yes _ _ _ (by omega) (by omega) (by omega) (by omega)).mono ?_; rintro e w' ⟨rfl, rfl⟩) | (go_at_call 34; refine (within_no _ _ _ (by omega) (by omega) (by omega)).mono ?_; rintro e w' ⟨rfl, rfl⟩))
    refine bodyPost_ret (v := .tuple #[.agg #[.int .i64 0, .int .i64 0], .bool false]) (by simp [results, Try.results30, go_sem]) rfl ?_
    exact ⟨_, _, false, rfl, fun h => (by cases h), (by repeat' (first | (with_reducible exact Below.refl _ _) | (with_reducible assumption) | (with_reducible refine below_drewN ?_ _) | (with_reducible refine Below.drew ?_) | (with_reducible refine bl_alloc ?_ _) | (with_reducible refine bl_set ?_ ?_ _) | go_size | omega))⟩

end Go.Proofs.Ytpecffijmamddaa
