/- Long numbers: LongMul of both. No condition: contracts for the walks of the laws. -/
import Derived.Test.YtgjknnacfildiaaLgN
import Derived.Test.YtgjknnacfildiaaLgC
namespace Go.Proofs.Ytgjknnacfildiaa
open Go.ChangeShapes Go.WideShapes Go.ChangeAt Go.RowKit


def MulYes (w : World) (xs : List Int) (e : Ending) (w' : World) : Prop := ∃ v, e = .returned (.tuple #[v, .bool true]) ∧ RdR w' w.heap.size v xs ∧ Below w.heap.size w w'
def MulNo (w : World) (e : Ending) (w' : World) : Prop := ∃ v, e = .returned (.tuple #[v, .bool false]) ∧ Below w.heap.size w w'
set_option maxHeartbeats 2000000 in
theorem lmul_yes {w : World} {b1 b2 : Nat} {v u : Value} {a b : Int} (h : RdR w b1 v (digs a)) (k : RdR w b2 u (digs b)) (a1 : 1 ≤ a) (a2 : a < pB 60) (k1 : 1 ≤ b) (k2 : b < pB 60) (hab : a * b < pB 60) : Calls Try.prog 14 #[v, u] w (MulYes w (digs (a * b))) := by
  have VA := Lib.hid (valid_impl h a1 a2)
  have VB := Lib.hid (valid_impl k k1 k2)
  have TMS := Lib.hid (times_impl h k a1 a2 k1 k2)
  have hlen := digs_len (a * b) (Int.mul_nonneg (by omega) (by omega)) 60
  have hln : ((digs (a * b)).length : Int) ≤ 60 := by have := hlen.2 hab; omega
  have hup := (digs_len (a * b) (Int.mul_nonneg (by omega) (by omega)) 121).2 (by
    have e1 := digs_dig a (by omega)
    have e2 := digs_dig b (by omega)
    have e3 := mul_lt e1 e2
    rw [lgV_digs a (by omega), lgV_digs b (by omega)] at e3
    have e4 := (digs_len a (by omega) 60).2 a2
    have e5 := (digs_len b (by omega) 60).2 k2
    exact Int.lt_of_lt_of_le e3 (pB_mono (by omega)))
  have hps := digs_ne (n := a * b) (Int.mul_pos (by omega) (by omega))
  clear hlen hab
  generalize digs (a * b) = xs at *
  obtain ⟨g, cap, rfl, -, -, hc, hlc, cA⟩ := h
  obtain ⟨g2, cap2, rfl, -, -, hc2, hlc2, cB⟩ := k
  clear cA cB
  generalize hn : (digs a).length = n at *
  generalize hm : (digs b).length = m at *
  go_enter Try.func14, Try.ntmps14
  go_wp2_with (first | (go_at_call 19; (first | (with_reducible refine Calls.mono VA.out ?_) | (with_reducible refine Calls.mono VB.out ?_)); rintro e w' ⟨rfl, rfl⟩) | fail)
  refine (TMS.out).mono ?_
  rintro e w1 ⟨v, rfl, hr, hb⟩
  obtain ⟨g3, cap3, rfl, h1, h2, h3, h4, h5⟩ := hr
  have hr : RdR w1 w.heap.size (.slice (some ⟨g3, 0, none⟩) xs.length cap3) xs := ⟨g3, cap3, rfl, h1, h2, h3, h4, h5⟩
  have HR := Lib.hid hr
  have HB := Lib.hid hb
  clear h5 hr hb
  have hui : (xs.length : Int) ≤ 121 := by omega
  generalize hL : xs.length = L at *
  go_wp2_with (first | (go_at_call 22; go_in) | fail)
  go_ret2
  exact ⟨_, rfl, HR.out, HB.out⟩
set_option maxHeartbeats 2000000 in
theorem lmul_no {w : World} {b1 b2 : Nat} {v u : Value} {a b : Int} (h : RdR w b1 v (digs a)) (k : RdR w b2 u (digs b)) (a1 : 1 ≤ a) (a2 : a < pB 60) (k1 : 1 ≤ b) (k2 : b < pB 60) (hab : pB 60 ≤ a * b) : Calls Try.prog 14 #[v, u] w (MulNo w) := by
  have VA := Lib.hid (valid_impl h a1 a2)
  have VB := Lib.hid (valid_impl k k1 k2)
  have TMS := Lib.hid (times_impl h k a1 a2 k1 k2)
  have hlen := digs_len (a * b) (Int.mul_nonneg (by omega) (by omega)) 60
  have hln : ((digs (a * b)).length : Int) > 60 := by have := hlen.1; omega
  have hup := (digs_len (a * b) (Int.mul_nonneg (by omega) (by omega)) 121).2 (by
    have e1 := digs_dig a (by omega)
    have e2 := digs_dig b (by omega)
    have e3 := mul_lt e1 e2
    rw [lgV_digs a (by omega), lgV_digs b (by omega)] at e3
    have e4 := (digs_len a (by omega) 60).2 a2
    have e5 := (digs_len b (by omega) 60).2 k2
    exact Int.lt_of_lt_of_le e3 (pB_mono (by omega)))
  have hps := digs_ne (n := a * b) (Int.mul_pos (by omega) (by omega))
  clear hlen hab
  generalize digs (a * b) = xs at *
  obtain ⟨g, cap, rfl, -, -, hc, hlc, cA⟩ := h
  obtain ⟨g2, cap2, rfl, -, -, hc2, hlc2, cB⟩ := k
  clear cA cB
  generalize hn : (digs a).length = n at *
  generalize hm : (digs b).length = m at *
  go_enter Try.func14, Try.ntmps14
  go_wp2_with (first | (go_at_call 19; (first | (with_reducible refine Calls.mono VA.out ?_) | (with_reducible refine Calls.mono VB.out ?_)); rintro e w' ⟨rfl, rfl⟩) | fail)
  refine (TMS.out).mono ?_
  rintro e w1 ⟨v, rfl, hr, hb⟩
  obtain ⟨g3, cap3, rfl, h1, h2, h3, h4, h5⟩ := hr
  have hr : RdR w1 w.heap.size (.slice (some ⟨g3, 0, none⟩) xs.length cap3) xs := ⟨g3, cap3, rfl, h1, h2, h3, h4, h5⟩
  have HR := Lib.hid hr
  have HB := Lib.hid hb
  clear h5 hr hb
  have hui : (xs.length : Int) ≤ 121 := by omega
  generalize hL : xs.length = L at *
  go_wp2_with (first | (go_at_call 22; go_in) | fail)
  go_ret2
  exact ⟨_, rfl, (by have hb := HB.out; repeat' (first | (with_reducible exact Below.refl _ _) | (with_reducible assumption) | (with_reducible refine below_drewN ?_ _) | (with_reducible refine Below.drew ?_) | (with_reducible refine bl_alloc ?_ _) | (with_reducible refine bl_set ?_ ?_ _) | go_size | omega))⟩
set_option maxHeartbeats 2000000 in
theorem smul_yes {w : World} {b1 b2 : Nat} {v u : Value} {a b : Int} (h : RdR w b1 v (digs a)) (k : RdR w b2 u (digs b)) (a1 : 1 ≤ a) (a2 : a < pB 60) (k1 : 1 ≤ b) (k2 : b < pB 60) (hab : a * b < pB 60) : Calls Try.prog 18 #[v, u] w (MulYes w (digs (a * b))) := by
  have VA := Lib.hid (valid_spec h a1 a2)
  have VB := Lib.hid (valid_spec k k1 k2)
  have TMS := Lib.hid (l3mul_any h k a1 a2 k1 k2)
  have hlen := digs_len (a * b) (Int.mul_nonneg (by omega) (by omega)) 60
  have hln : ((digs (a * b)).length : Int) ≤ 60 := by have := hlen.2 hab; omega
  have hup := (digs_len (a * b) (Int.mul_nonneg (by omega) (by omega)) 121).2 (by
    have e1 := digs_dig a (by omega)
    have e2 := digs_dig b (by omega)
    have e3 := mul_lt e1 e2
    rw [lgV_digs a (by omega), lgV_digs b (by omega)] at e3
    have e4 := (digs_len a (by omega) 60).2 a2
    have e5 := (digs_len b (by omega) 60).2 k2
    exact Int.lt_of_lt_of_le e3 (pB_mono (by omega)))
  have hps := digs_ne (n := a * b) (Int.mul_pos (by omega) (by omega))
  clear hlen hab
  generalize digs (a * b) = xs at *
  obtain ⟨g, cap, rfl, -, -, hc, hlc, cA⟩ := h
  obtain ⟨g2, cap2, rfl, -, -, hc2, hlc2, cB⟩ := k
  clear cA cB
  generalize hn : (digs a).length = n at *
  generalize hm : (digs b).length = m at *
  go_enter Try.func18, Try.ntmps18
  go_wp2_with (first | (go_at_call 17; (first | (with_reducible refine Calls.mono VA.out ?_) | (with_reducible refine Calls.mono VB.out ?_)); rintro e w' ⟨rfl, rfl⟩) | fail)
  refine (TMS.out).mono ?_
  rintro e w1 ⟨v, rfl, hr, hb⟩
  obtain ⟨ao3, cap3, rfl, h3, h4, -⟩ := hr.open_
  skip
  have HR := Lib.hid hr
  have HB := Lib.hid hb
  clear hr hb
  have hui : (xs.length : Int) ≤ 121 := by omega
  generalize hL : xs.length = L at *
  go_wp2_with (first | (go_at_call 22; go_in) | fail)
  go_ret2
  exact ⟨_, rfl, HR.out.rd (by omega), HB.out⟩
set_option maxHeartbeats 2000000 in
theorem smul_no {w : World} {b1 b2 : Nat} {v u : Value} {a b : Int} (h : RdR w b1 v (digs a)) (k : RdR w b2 u (digs b)) (a1 : 1 ≤ a) (a2 : a < pB 60) (k1 : 1 ≤ b) (k2 : b < pB 60) (hab : pB 60 ≤ a * b) : Calls Try.prog 18 #[v, u] w (MulNo w) := by
  have VA := Lib.hid (valid_spec h a1 a2)
  have VB := Lib.hid (valid_spec k k1 k2)
  have TMS := Lib.hid (l3mul_any h k a1 a2 k1 k2)
  have hlen := digs_len (a * b) (Int.mul_nonneg (by omega) (by omega)) 60
  have hln : ((digs (a * b)).length : Int) > 60 := by have := hlen.1; omega
  have hup := (digs_len (a * b) (Int.mul_nonneg (by omega) (by omega)) 121).2 (by
    have e1 := digs_dig a (by omega)
    have e2 := digs_dig b (by omega)
    have e3 := mul_lt e1 e2
    rw [lgV_digs a (by omega), lgV_digs b (by omega)] at e3
    have e4 := (digs_len a (by omega) 60).2 a2
    have e5 := (digs_len b (by omega) 60).2 k2
    exact Int.lt_of_lt_of_le e3 (pB_mono (by omega)))
  have hps := digs_ne (n := a * b) (Int.mul_pos (by omega) (by omega))
  clear hlen hab
  generalize digs (a * b) = xs at *
  obtain ⟨g, cap, rfl, -, -, hc, hlc, cA⟩ := h
  obtain ⟨g2, cap2, rfl, -, -, hc2, hlc2, cB⟩ := k
  clear cA cB
  generalize hn : (digs a).length = n at *
  generalize hm : (digs b).length = m at *
  go_enter Try.func18, Try.ntmps18
  go_wp2_with (first | (go_at_call 17; (first | (with_reducible refine Calls.mono VA.out ?_) | (with_reducible refine Calls.mono VB.out ?_)); rintro e w' ⟨rfl, rfl⟩) | fail)
  refine (TMS.out).mono ?_
  rintro e w1 ⟨v, rfl, hr, hb⟩
  obtain ⟨ao3, cap3, rfl, h3, h4, -⟩ := hr.open_
  skip
  have HR := Lib.hid hr
  have HB := Lib.hid hb
  clear hr hb
  have hui : (xs.length : Int) ≤ 121 := by omega
  generalize hL : xs.length = L at *
  go_wp2_with (first | (go_at_call 22; go_in) | fail)
  go_ret2
  exact ⟨_, rfl, (by have hb := HB.out; repeat' (first | (with_reducible exact Below.refl _ _) | (with_reducible assumption) | (with_reducible refine below_drewN ?_ _) | (with_reducible refine Below.drew ?_) | (with_reducible refine bl_alloc ?_ _) | (with_reducible refine bl_set ?_ ?_ _) | go_size | omega))⟩
end Go.Proofs.Ytgjknnacfildiaa
