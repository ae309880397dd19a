/- Long numbers: LongPower of both, the reference's repeated squares. No condition: contracts for the walks of the laws. -/
import Derived.Test.YtgjknnacfildiaaLgW
namespace Go.Proofs.Ytgjknnacfildiaa
open Go.ChangeShapes Go.WideShapes Go.ChangeAt Go.RowKit


def PwPost (w : World) (x : Int) (e : Ending) (w' : World) : Prop := (x < pB 60 ∧ MulYes w (digs x) e w') ∨ (pB 60 ≤ x ∧ MulNo w e w')
theorem pwPost_yes {w w' : World} {x : Int} {v : Value} (h : x < pB 60) (hr : RdR w' w.heap.size v (digs x)) (hb : Below w.heap.size w w') : PwPost w x (.returned (.tuple #[v, .bool true])) w' := .inl ⟨h, v, rfl, hr, hb⟩
theorem pwPost_no {w w' : World} {x : Int} {v : Value} (h : pB 60 ≤ x) (hb : Below w.heap.size w w') : PwPost w x (.returned (.tuple #[v, .bool false])) w' := .inr ⟨h, v, rfl, hb⟩
theorem pw_succ (a : Int) (k : Nat) : a ^ (k + 1) = a ^ k * a := Int.pow_succ a k
theorem pw_ge {a : Int} (h : 1 ≤ a) : ∀ k : Nat, 1 ≤ a ^ k
  | 0 => by simp
  | k + 1 => by
    have h1 := pw_ge h k
    rw [pw_succ]
    have := Int.mul_le_mul_of_nonneg_right h1 (show 0 ≤ a by omega)
    omega
theorem pw_mono {a : Int} (h : 1 ≤ a) {k m : Nat} (hk : k ≤ m) : a ^ k ≤ a ^ m := by
  obtain ⟨d, rfl⟩ := Nat.exists_eq_add_of_le hk
  rw [Int.pow_add]
  have h1 := pw_ge h k
  have h2 := pw_ge h d
  have := Int.mul_le_mul_of_nonneg_left h2 (show 0 ≤ a ^ k by omega)
  omega
theorem pw_base {a b : Int} (h : 1 ≤ a) (hab : a ≤ b) : ∀ k : Nat, a ^ k ≤ b ^ k
  | 0 => by simp
  | k + 1 => by
    have h1 := pw_base h hab k
    have h2 := pw_ge h k
    rw [pw_succ, pw_succ]
    exact Int.le_trans (Int.mul_le_mul_of_nonneg_right h1 (by omega)) (Int.mul_le_mul_of_nonneg_left hab (by omega))
theorem pw_small {n : Int} (n1 : 1 ≤ n) (n2 : n ≤ 65535) {k : Nat} (hk : k ≤ 5) : n ^ (2 ^ k) < pB 60 := by
  have h1 : (2 ^ k : Nat) ≤ 32 := by
    have : (2 ^ k : Nat) ≤ 2 ^ 5 := Nat.pow_le_pow_right (by decide) hk
    omega
  have h2 := pw_mono n1 h1
  have h3 := pw_base n1 n2 32
  have h4 : (65535 : Int) ^ 32 < pB 60 := by decide +kernel
  omega
theorem digs_one : digs 1 = [1] := by rw [digs_pos (by decide), digs_nil (by decide)]; rfl
theorem digs_two : digs 2 = [2] := by rw [digs_pos (by decide), digs_nil (by decide)]; rfl
theorem pB_60 : pB 60 = 10 ^ 240 := by decide +kernel
theorem pB_one (a : Int) : a ^ 0 < pB 60 := by rw [Int.pow_zero]; decide +kernel
theorem RdR.lit (w : World) (base : Nat) (h : base ≤ w.heap.size) (x : Int) : RdR (w.alloc (.cells #[.int .i64 x] 3)) base (.slice (some ⟨w.heap.size, 0, none⟩) 1 1) [x] :=
  ⟨w.heap.size, 1, rfl, h, by simp, by unfold maxLen; omega, Nat.le_refl _, fun j hj => by
    have : j = 0 := by simpa using hj
    subst this
    rw [(Blk.new w 3 #[.int .i64 x]).cell 0]; rfl⟩
theorem RdR.one (w : World) (base : Nat) (h : base ≤ w.heap.size) {a : Int} : RdR (w.alloc (.cells #[.int .i64 1] 3)) base (.slice (some ⟨w.heap.size, 0, none⟩) 1 1) (digs (a ^ 0)) := by
  rw [Int.pow_zero, digs_one]; exact RdR.lit w base h 1
set_option maxHeartbeats 4000000 in
theorem pow_impl {w : World} {b1 : Nat} {v : Value} {a : Int} {ex : Nat} (h : RdR w b1 v (digs a)) (a1 : 1 ≤ a) (a2 : a < pB 60) (hex : ex ≤ 1000) : Calls Try.prog 11 #[v, .int .i64 (ex : Int)] w (PwPost w (a ^ ex)) := by
  have VA := Lib.hid (valid_impl h a1 a2)
  have hei : (ex : Int) ≤ 1000 := by omega
  have HA := Lib.hid h
  obtain ⟨g, cap, rfl, -, -, hc, hlc, cA⟩ := h
  clear cA
  generalize hn : (digs a).length = n at *
  go_enter Try.func11, Try.ntmps11
  go_wp2_with (first | (go_at_call 19; (with_reducible refine Calls.mono VA.out ?_); rintro e w' ⟨rfl, rfl⟩) | fail)
  have HB0 : Hid (Below w.heap.size w (w.alloc (.cells #[.int .i64 1] 3))) := Lib.hid (by repeat' (first | (with_reducible exact Below.refl _ _) | (with_reducible assumption) | (with_reducible refine below_drewN ?_ _) | (with_reducible refine Below.drew ?_) | (with_reducible refine bl_alloc ?_ _) | (with_reducible refine bl_set ?_ ?_ _) | go_size | omega))
  have HR0 := Lib.hid (RdR.one w w.heap.size (Nat.le_refl _) (a := a))
  go_loopw [22, 6] (fun i v wr => ∃ k : Nat, i = .int .i64 (k : Int) ∧ k ≤ ex ∧ RdR wr w.heap.size v (digs (a ^ k)) ∧ Below w.heap.size w wr ∧ Hid (a ^ k < pB 60)) (fun i _ _ => ex - (RowKit.intOf i).toNat)
  case atStart => exact ⟨0, rfl, Nat.zero_le _, HR0.out, HB0.out, Lib.hid (pB_one a)⟩
  case round =>
    obtain ⟨k, rfl, hk, hrow, hbl, HK⟩ := hrel
    have HROW := Lib.hid hrow
    have HBL := Lib.hid hbl
    clear hrow hbl
    rcases Nat.lt_or_ge k ex with hlt | hge
    · have hki : (k : Int) < (ex : Int) := by omega
      have hp1 := pw_ge a1 k
      rcases Int.lt_or_le (a ^ k * a) (pB 60) with hy | hy
      · have MY := Lib.hid ((lmul_yes HROW.out (HA.out.below HBL.out) hp1 HK.out a1 a2 hy))
        have HK2 : Hid (a ^ (k + 1) < pB 60) := Lib.hid (by rw [pw_succ]; exact hy)
        clear hy hp1
        go_wp2_with fail
        refine (MY.out).mono ?_
        rintro e w1 ⟨v1, rfl, hr, hb⟩
        have hr2 := hr.lower HBL.out.size
        rw [← pw_succ] at hr2
        have HR := Lib.hid hr2
        have HB := Lib.hid (bl_behind hb HBL.out)
        clear hr hb hr2
        go_wp2_with fail
        go_roundw
        case rel => exact ⟨k + 1, by go_num, by omega, HR.out, HB.out, HK2⟩
        case measure => simp [RowKit.intOf] <;> omega
      · have MN := Lib.hid ((lmul_no HROW.out (HA.out.below HBL.out) hp1 HK.out a1 a2 hy))
        have HNO : Hid (pB 60 ≤ a ^ ex) := Lib.hid (by
          have := pw_mono a1 (show k + 1 ≤ ex by omega)
          rw [pw_succ] at this
          omega)
        clear hy hp1
        go_wp2_with fail
        refine (MN.out).mono ?_
        rintro e w1 ⟨v1, rfl, hb⟩
        have HB := Lib.hid (bl_behind hb HBL.out)
        clear hb
        go_wp2_with fail
        go_ret2
        exact pwPost_no HNO.out (by have hb := HB.out; repeat' (first | (with_reducible exact Below.refl _ _) | (with_reducible assumption) | (with_reducible refine below_drewN ?_ _) | (with_reducible refine Below.drew ?_) | (with_reducible refine bl_alloc ?_ _) | (with_reducible refine bl_set ?_ ?_ _) | go_size | omega))
    · have e : k = ex := by omega
      subst e
      go_wp2_with fail
      go_ret2
      exact pwPost_yes HK.out HROW.out HBL.out
set_option maxHeartbeats 4000000 in
theorem pow_spec {w : World} {b1 : Nat} {v : Value} {a : Int} {ex : Nat} (h : RdR w b1 v (digs a)) (a1 : 1 ≤ a) (a2 : a < pB 60) (hex : ex ≤ 1000) : Calls Try.prog 8 #[v, .int .i64 (ex : Int)] w (PwPost w (a ^ ex)) := by
  have VA := Lib.hid (valid_spec h a1 a2)
  have hei : (ex : Int) ≤ 1000 := by omega
  have HA := Lib.hid h
  obtain ⟨g, cap, rfl, -, -, hc, hlc, cA⟩ := h
  clear cA
  generalize hn : (digs a).length = n at *
  go_enter Try.func8, Try.ntmps8
  go_wp2_with (first | (go_at_call 17; (with_reducible refine Calls.mono VA.out ?_); rintro e w' ⟨rfl, rfl⟩) | (go_at_call 6; refine (l1in_yes _ _ _ _ (by omega) (by omega)).mono ?_; rintro e w' ⟨rfl, rfl⟩) | fail)
  have HB0 : Hid (Below w.heap.size w (w.alloc (.cells #[.int .i64 1] 3))) := Lib.hid (by repeat' (first | (with_reducible exact Below.refl _ _) | (with_reducible assumption) | (with_reducible refine below_drewN ?_ _) | (with_reducible refine Below.drew ?_) | (with_reducible refine bl_alloc ?_ _) | (with_reducible refine bl_set ?_ ?_ _) | go_size | omega))
  have HR0 := Lib.hid (RdR.one w w.heap.size (Nat.le_refl _) (a := a))
  go_loopw [7, 6] (fun i v wr => ∃ k : Nat, i = .int .i64 (k : Int) ∧ k ≤ ex ∧ RdR wr w.heap.size v (digs (a ^ k)) ∧ Below w.heap.size w wr ∧ Hid (a ^ k < pB 60)) (fun i _ _ => ex - (RowKit.intOf i).toNat)
  case atStart => exact ⟨0, rfl, Nat.zero_le _, HR0.out, HB0.out, Lib.hid (pB_one a)⟩
  case round =>
    obtain ⟨k, rfl, hk, hrow, hbl, HK⟩ := hrel
    have HROW := Lib.hid hrow
    have HBL := Lib.hid hbl
    clear hrow hbl
    rcases Nat.lt_or_ge k ex with hlt | hge
    · have hki : (k : Int) < (ex : Int) := by omega
      have hp1 := pw_ge a1 k
      rcases Int.lt_or_le (a ^ k * a) (pB 60) with hy | hy
      · have MY := Lib.hid ((smul_yes HROW.out (HA.out.below HBL.out) hp1 HK.out a1 a2 hy))
        have HK2 : Hid (a ^ (k + 1) < pB 60) := Lib.hid (by rw [pw_succ]; exact hy)
        clear hy hp1
        go_wp2_with fail
        refine (MY.out).mono ?_
        rintro e w1 ⟨v1, rfl, hr, hb⟩
        have hr2 := hr.lower HBL.out.size
        rw [← pw_succ] at hr2
        have HR := Lib.hid hr2
        have HB := Lib.hid (bl_behind hb HBL.out)
        clear hr hb hr2
        go_wp2_with fail
        go_roundw
        case rel => exact ⟨k + 1, by go_num, by omega, HR.out, HB.out, HK2⟩
        case measure => simp [RowKit.intOf] <;> omega
      · have MN := Lib.hid ((smul_no HROW.out (HA.out.below HBL.out) hp1 HK.out a1 a2 hy))
        have HNO : Hid (pB 60 ≤ a ^ ex) := Lib.hid (by
          have := pw_mono a1 (show k + 1 ≤ ex by omega)
          rw [pw_succ] at this
          omega)
        clear hy hp1
        go_wp2_with fail
        refine (MN.out).mono ?_
        rintro e w1 ⟨v1, rfl, hb⟩
        have HB := Lib.hid (bl_behind hb HBL.out)
        clear hb
        go_wp2_with fail
        go_ret2
        exact pwPost_no HNO.out (by have hb := HB.out; repeat' (first | (with_reducible exact Below.refl _ _) | (with_reducible assumption) | (with_reducible refine below_drewN ?_ _) | (with_reducible refine Below.drew ?_) | (with_reducible refine bl_alloc ?_ _) | (with_reducible refine bl_set ?_ ?_ _) | go_size | omega))
    · have e : k = ex := by omega
      subst e
      go_wp2_with fail
      go_ret2
      exact pwPost_yes HK.out HROW.out HBL.out
set_option maxHeartbeats 1000000 in
theorem pow_spec_big {w : World} {b1 : Nat} {v : Value} {a : Int} (h : RdR w b1 v (digs a)) (a1 : 1 ≤ a) (a2 : a < pB 60) : Calls Try.prog 8 #[v, .int .i64 1001] w (MulNo w) := by
  have VA := Lib.hid (valid_spec h a1 a2)
  obtain ⟨g, cap, rfl, -, -, hc, hlc, cA⟩ := h
  clear cA
  generalize hn : (digs a).length = n at *
  go_enter Try.func8, Try.ntmps8
  go_wp2_with (first | (go_at_call 17; (with_reducible refine Calls.mono VA.out ?_); rintro e w' ⟨rfl, rfl⟩) | (go_at_call 6; refine (l1in_no _ _ _ _ (by omega)).mono ?_; rintro e w' ⟨rfl, rfl⟩) | fail)
  go_ret2
  exact ⟨_, rfl, (by repeat' (first | (with_reducible exact Below.refl _ _) | (with_reducible assumption) | (with_reducible refine below_drewN ?_ _) | (with_reducible refine Below.drew ?_) | (with_reducible refine bl_alloc ?_ _) | (with_reducible refine bl_set ?_ ?_ _) | go_size | omega))⟩
set_option maxHeartbeats 2000000 in
theorem l11_any (n : Int) (d : Nat) (w : World) (n1 : 1 ≤ n) (n2 : n ≤ 65535) (hd : d ≤ 5) : Calls Try.prog 7 #[.int .i64 n, .int .i64 (d : Int)] w (TmPost w (digs (n ^ (2 ^ d)))) := by
  have hdi : (d : Int) ≤ 5 := by omega
  go_enter Try.func7, Try.ntmps7
  go_wp2_with fail
  refine (longof_spec n _ n1 n2).mono ?_
  rintro e w1 ⟨v, rfl, hr, hb⟩
  have HR := Lib.hid (hr.rd (digs_ne (by omega)))
  have HB := Lib.hid hb
  clear hr hb
  go_wp2_with fail
  go_loopw [6, 5] (fun i v wr => ∃ k : Nat, i = .int .i64 (k : Int) ∧ k ≤ d ∧ RdR wr w.heap.size v (digs (n ^ (2 ^ k))) ∧ Below w.heap.size w wr) (fun i _ _ => d - (RowKit.intOf i).toNat)
  case atStart => exact ⟨0, rfl, Nat.zero_le _, by rw [Nat.pow_zero, Int.pow_succ, Int.pow_zero, Int.one_mul]; exact HR.out, HB.out⟩
  case round =>
    obtain ⟨k, rfl, hk, hrow, hbl⟩ := hrel
    have HROW := Lib.hid hrow
    have HBL := Lib.hid hbl
    clear hrow hbl
    rcases Nat.lt_or_ge k d with hlt | hge
    · have hki : (k : Int) < (d : Int) := by omega
      have hp1 := pw_ge n1 (2 ^ k)
      have hp2 := pw_small n1 n2 (show k ≤ 5 by omega)
      have ML := Lib.hid (l3mul_any HROW.out HROW.out hp1 hp2 hp1 hp2)
      clear hp1 hp2
      go_wp2_with fail
      refine (ML.out).mono ?_
      rintro e w2 ⟨v2, rfl, hr, hb⟩
      have hr2 := (hr.rd (digs_ne (Int.mul_pos (by have := pw_ge n1 (2 ^ k); omega) (by have := pw_ge n1 (2 ^ k); omega)))).lower HBL.out.size
      rw [← Int.pow_add, ← Nat.two_mul, Nat.mul_comm, ← Nat.pow_succ] at hr2
      have HR := Lib.hid hr2
      have HB := Lib.hid (bl_behind hb HBL.out)
      clear hr hb hr2
      go_wp2_with fail
      go_roundw
      case rel => exact ⟨k + 1, by go_num, by omega, HR.out, HB.out⟩
      case measure => simp [RowKit.intOf] <;> omega
    · have e : k = d := by omega
      subst e
      go_wp2_with fail
      go_ret
      exact ⟨_, rfl, HROW.out, HBL.out⟩
end Go.Proofs.Ytgjknnacfildiaa
