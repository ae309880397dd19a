/- Long numbers: LongValid, LongOf, LongCompare of both. No condition: contracts for the walks of the laws. -/
import Derived.Test.YtgjknnacfildiaaRowI
import Derived.Test.YtgjknnacfildiaaLgP
namespace Go.Proofs.Ytgjknnacfildiaa
open Go.ChangeShapes Go.WideShapes Go.ChangeAt Go.RowKit


def cmpV (a b : Int) : Int := if a < b then -1 else if a = b then 0 else 1
theorem cmp_at {a b : Int} (ha : 1 ≤ a) (hb : 1 ≤ b) : ((digs a).length < (digs b).length → cmpV a b = -1) ∧ ((digs b).length < (digs a).length → cmpV a b = 1) ∧
    ((digs a).length = (digs b).length → (∀ i, i < (digs a).length → (∀ x, i + 1 ≤ x → x < (digs a).length → (digs a).getD x 0 = (digs b).getD x 0) → (digs a).getD i 0 < (digs b).getD i 0 → cmpV a b = -1) ∧
      (∀ i, i < (digs a).length → (∀ x, i + 1 ≤ x → x < (digs a).length → (digs a).getD x 0 = (digs b).getD x 0) → (digs b).getD i 0 < (digs a).getD i 0 → cmpV a b = 1) ∧
      ((∀ x, x < (digs a).length → (digs a).getD x 0 = (digs b).getD x 0) → cmpV a b = 0)) := by
  have va := lgV_digs a (by omega)
  have vb := lgV_digs b (by omega)
  have da := digs_dig a (by omega)
  have db := digs_dig b (by omega)
  refine ⟨fun h => ?_, fun h => ?_, fun h => ⟨fun i hi he hl => ?_, fun i hi he hl => ?_, fun he => ?_⟩⟩
  · have := digs_short (by omega) (by omega) h
    unfold cmpV; rw [if_pos this]
  · have := digs_short (by omega) (by omega) h
    unfold cmpV; rw [if_neg (by omega), if_neg (by omega)]
  · have := lg_cmp _ _ i h hi da db (fun j h1 h2 => he j h1 h2) hl
    rw [va, vb] at this
    unfold cmpV; rw [if_pos this]
  · have := lg_cmp _ _ i h.symm (by omega) db da (fun j h1 h2 => (he j h1 (by omega)).symm) hl
    rw [va, vb] at this
    unfold cmpV; rw [if_neg (by omega), if_neg (by omega)]
  · have e := digs_eq_of h he
    rw [e, vb] at va
    unfold cmpV; rw [if_neg (by omega), if_pos va.symm]
set_option maxHeartbeats 1000000 in
theorem valid_impl {w : World} {base : Nat} {v : Value} {n : Int} (h : RdR w base v (digs n)) (h1 : 1 ≤ n) (h2 : n < pB 60) : Calls Try.prog 19 #[v] w fun e w' => e = .returned (.bool true) ∧ w = w' := by
  obtain ⟨g, cap, rfl, -, -, hc, hlc, cA⟩ := h
  have hD := digs_dig n (by omega)
  have hL := digs_last n (by omega)
  have hlen := (digs_len n (by omega) 60).2 h2
  have hpos := digs_ne (n := n) (by omega)
  generalize digs n = xs at *
  generalize hm : xs.length = m at *
  have hz := hL hpos
  have cz := cA (m - 1) (by omega)
  generalize hzz : xs.getD (m - 1) 0 = z at *
  have hmi : (m : Int) ≤ 60 := by omega
  have hmp : (1 : Int) ≤ (m : Int) := by omega
  have hcast : ((m : Int) - 1).toNat = m - 1 := by omega
  go_enter Try.func19, Try.ntmps19
  go_wp2
  go_loop [10] (fun i => ∃ k : Nat, i = .int .i64 (k : Int) ∧ k ≤ m) (fun i => m - (RowKit.intOf i).toNat)
  case atStart => exact ⟨0, rfl, Nat.zero_le _⟩
  case round =>
    obtain ⟨k, rfl, hk⟩ := hrel
    rcases Nat.lt_or_ge k m with hlt | hge
    · have ca := cA k hlt
      have hd := hD k (by omega)
      have hki : (k : Int) < (m : Int) := by omega
      clear cA hD
      generalize xs.getD k 0 = x at *
      go_wp2
      go_round
      case rel => exact ⟨k + 1, by go_num, by omega⟩
      case measure => simp [RowKit.intOf]; omega
    · have e : k = m := by omega
      subst e
      clear cA hD
      have hz0 : (z != 0) = true := by simp; omega
      go_wp2
      go_ret
      exact ⟨ret_bool (by first | rfl | (rw [hz0]; simp) | (simp; omega)), rfl⟩
set_option maxHeartbeats 1000000 in
theorem valid_spec {w : World} {base : Nat} {v : Value} {n : Int} (h : RdR w base v (digs n)) (h1 : 1 ≤ n) (h2 : n < pB 60) : Calls Try.prog 17 #[v] w fun e w' => e = .returned (.bool true) ∧ w = w' := by
  obtain ⟨g, cap, rfl, -, -, hc, hlc, cA⟩ := h
  have hD := digs_dig n (by omega)
  have hL := digs_last n (by omega)
  have hlen := (digs_len n (by omega) 60).2 h2
  have hpos := digs_ne (n := n) (by omega)
  generalize digs n = xs at *
  generalize hm : xs.length = m at *
  have hz := hL hpos
  have cz := cA (m - 1) (by omega)
  generalize hzz : xs.getD (m - 1) 0 = z at *
  have hmi : (m : Int) ≤ 60 := by omega
  have hmp : (1 : Int) ≤ (m : Int) := by omega
  have hcast : ((m : Int) - 1).toNat = m - 1 := by omega
  go_enter Try.func17, Try.ntmps17
  go_wp2
  go_loop [3] (fun i => ∃ k : Nat, i = .int .i64 (k : Int) ∧ k ≤ m) (fun i => m - (RowKit.intOf i).toNat)
  case atStart => exact ⟨0, rfl, Nat.zero_le _⟩
  case round =>
    obtain ⟨k, rfl, hk⟩ := hrel
    rcases Nat.lt_or_ge k m with hlt | hge
    · have ca := cA k hlt
      have hd := hD k (by omega)
      have hki : (k : Int) < (m : Int) := by omega
      clear cA hD
      generalize xs.getD k 0 = x at *
      go_wp2_with (first | (go_at_call 6; refine (l1in_yes _ _ _ _ (by omega) (by omega)).mono ?_; rintro e w' ⟨rfl, rfl⟩))
      go_round
      case rel => exact ⟨k + 1, by go_num, by omega⟩
      case measure => simp [RowKit.intOf]; omega
    · have e : k = m := by omega
      subst e
      clear cA hD
      have hz0 : (z != 0) = true := by simp; omega
      go_wp2
      go_ret
      exact ⟨ret_bool (by first | rfl | (rw [hz0]; simp) | (simp; omega)), rfl⟩
set_option maxHeartbeats 2000000 in
theorem longof_impl (n : Int) (w : World) (h1 : 1 ≤ n) (h2 : n ≤ 65535) : Calls Try.prog 12 #[.int .i64 n] w (RowPost w (digs n)) := by
  obtain ⟨i0, hi, hz0, hz1, hz2⟩ := (info_parts (P := Try.prog) (e := 3) (z := .int .i64 0) (size := 1) (bytes := 8) (by kernel_rfl) : ∃ i, Try.prog.info? 3 = some i ∧ i.zero = some (.int .i64 0) ∧ i.size = 1 ∧ i.bytes = 8)
  have hn : n < pB 60 := Int.lt_of_le_of_lt h2 (by decide)
  have HL := (digs_len n (by omega) 60).2 hn
  clear hn
  go_enter Try.func12, Try.ntmps12
  go_wp2
  go_loopw [3, 0] (fun v i wr => ∃ (x : Int) (xs : List Int), i = .int .i64 x ∧ 0 ≤ x ∧ x ≤ 65535 ∧ xs ++ digs x = digs n ∧ Row wr w.heap.size v xs ∧ Below w.heap.size w wr) (fun _ i _ => (RowKit.intOf i).toNat)
  case atStart => exact ⟨n, [], rfl, by omega, h2, rfl, Row.nil _ _, (by repeat' (first | (with_reducible exact Below.refl _ _) | (with_reducible assumption) | (with_reducible refine below_drewN ?_ _) | (with_reducible refine Below.drew ?_) | (with_reducible refine bl_alloc ?_ _) | (with_reducible refine bl_set ?_ ?_ _) | go_size | omega))⟩
  case round =>
    obtain ⟨x, xs, rfl, hx0, hx1, he, hrow, hbl⟩ := hrel
    have HROW := Lib.hid hrow
    have HBL := Lib.hid hbl
    by_cases hx : x = 0
    · subst hx
      rw [digs_nil (by omega), List.append_nil] at he
      have HE := Lib.hid he
      clear he hrow hbl
      go_wp2
      go_ret
      exact ⟨_, rfl, HE.out ▸ HROW.out, HBL.out⟩
    · rw [digs_pos (by omega)] at he
      have hll : xs.length ≤ 59 := by rw [← he] at HL; simp at HL; omega
      have HE : Hid ((xs ++ [x % 10000]) ++ digs (x / 10000) = digs n) := Lib.hid (by rw [← he]; simp)
      clear he
      have hq0 : 0 ≤ x / 10000 := by omega
      have hq1 : x / 10000 < x := by omega
      have hr0 : 0 ≤ x % 10000 := by omega
      have hr1 : x % 10000 < 10000 := by omega
      have et : x.tdiv 10000 = x / 10000 := Int.tdiv_eq_ediv_of_nonneg hx0
      have em : x.tmod 10000 = x % 10000 := Int.tmod_eq_emod_of_nonneg hx0
      generalize x / 10000 = d at *
      generalize x % 10000 = r at *
      go_wp2_with (first | (rw [et]) | (rw [em]) | (at_builtin; refine wpList_append_own _ rfl _ _ 23 rfl w.heap.size 3 i0 (.int .i64 0) 1 8 Try.underlying23 hi hz0 hz1 hz2 rfl (by decide) _ _ _ rfl (hrow.alloc _) ⟨wr.heap.size, 0, none⟩ 1 1 [.int .i64 r] rfl rfl ?c1 ?c2 ?c3 ?c4 ?c5 ?_))
      case c1 =>
        intro j u hj
        match j, hj with
        | 0, hj => simp at hj; subst hj; simp [Addr.add]
      case c2 => intro u hu; simp at hu; subst hu; rfl
      case c3 => unfold maxLen; omega
      case c4 => omega
      case c5 => have := hbl.size; simp; omega
      intro v' w1 hown' hgrow _
      obtain ⟨r1, b1, hk⟩ := Row.more HROW.out hown' hgrow HBL.out (Nat.le_refl _) (Nat.le_refl _)
      have R1 := Lib.hid r1
      have B1 := Lib.hid b1
      clear hown' hgrow hrow hbl hk r1 b1
      go_wp2_with (first | (rw [et]) | (rw [em]))
      go_roundw
      case rel => exact ⟨d, xs ++ [r], rfl, hq0, by omega, HE.out, R1.out, B1.out⟩
      case measure => simp [RowKit.intOf]; omega
set_option maxHeartbeats 2000000 in
theorem longof_spec (n : Int) (w : World) (h1 : 1 ≤ n) (h2 : n ≤ 65535) : Calls Try.prog 15 #[.int .i64 n] w (RowPost w (digs n)) := by
  obtain ⟨i0, hi, hz0, hz1, hz2⟩ := (info_parts (P := Try.prog) (e := 3) (z := .int .i64 0) (size := 1) (bytes := 8) (by kernel_rfl) : ∃ i, Try.prog.info? 3 = some i ∧ i.zero = some (.int .i64 0) ∧ i.size = 1 ∧ i.bytes = 8)
  have hn : n < pB 60 := Int.lt_of_le_of_lt h2 (by decide)
  have HL := (digs_len n (by omega) 60).2 hn
  clear hn
  go_enter Try.func15, Try.ntmps15
  go_wp2
  go_loopw [3, 0] (fun v i wr => ∃ (x : Int) (xs : List Int), i = .int .i64 x ∧ 0 ≤ x ∧ x ≤ 65535 ∧ xs ++ digs x = digs n ∧ Row wr w.heap.size v xs ∧ Below w.heap.size w wr) (fun _ i _ => (RowKit.intOf i).toNat)
  case atStart => exact ⟨n, [], rfl, by omega, h2, rfl, (by repeat (first | (with_reducible refine Row.drewN ?_ _) | ((with_reducible refine Row.emptyAt ?_ ?_) <;> first | rfl | (simp; done) | omega | (simp; omega)) | (with_reducible refine Row.alloc ?_ _))), (by repeat' (first | (with_reducible exact Below.refl _ _) | (with_reducible assumption) | (with_reducible refine below_drewN ?_ _) | (with_reducible refine Below.drew ?_) | (with_reducible refine bl_alloc ?_ _) | (with_reducible refine bl_set ?_ ?_ _) | go_size | omega))⟩
  case round =>
    obtain ⟨x, xs, rfl, hx0, hx1, he, hrow, hbl⟩ := hrel
    have HROW := Lib.hid hrow
    have HBL := Lib.hid hbl
    by_cases hx : x = 0
    · subst hx
      rw [digs_nil (by omega), List.append_nil] at he
      have HE := Lib.hid he
      clear he hrow hbl
      go_wp2
      go_ret
      exact ⟨_, rfl, HE.out ▸ HROW.out, HBL.out⟩
    · rw [digs_pos (by omega)] at he
      have hll : xs.length ≤ 59 := by rw [← he] at HL; simp at HL; omega
      have HE : Hid ((xs ++ [x % 10000]) ++ digs (x / 10000) = digs n) := Lib.hid (by rw [← he]; simp)
      clear he
      have hq0 : 0 ≤ x / 10000 := by omega
      have hq1 : x / 10000 < x := by omega
      have hr0 : 0 ≤ x % 10000 := by omega
      have hr1 : x % 10000 < 10000 := by omega
      have et : x.tdiv 10000 = x / 10000 := Int.tdiv_eq_ediv_of_nonneg hx0
      have em : x.tmod 10000 = x % 10000 := Int.tmod_eq_emod_of_nonneg hx0
      generalize x / 10000 = d at *
      generalize x % 10000 = r at *
      go_wp2_with (first | (rw [et]) | (rw [em]) | (at_builtin; refine wpList_append_own _ rfl _ _ 23 rfl w.heap.size 3 i0 (.int .i64 0) 1 8 Try.underlying23 hi hz0 hz1 hz2 rfl (by decide) _ _ _ rfl (hrow.alloc _) ⟨wr.heap.size, 0, none⟩ 1 1 [.int .i64 r] rfl rfl ?c1 ?c2 ?c3 ?c4 ?c5 ?_))
      case c1 =>
        intro j u hj
        match j, hj with
        | 0, hj => simp at hj; subst hj; simp [Addr.add]
      case c2 => intro u hu; simp at hu; subst hu; rfl
      case c3 => unfold maxLen; omega
      case c4 => omega
      case c5 => have := hbl.size; simp; omega
      intro v' w1 hown' hgrow _
      obtain ⟨r1, b1, hk⟩ := Row.more HROW.out hown' hgrow HBL.out (Nat.le_refl _) (Nat.le_refl _)
      have R1 := Lib.hid r1
      have B1 := Lib.hid b1
      clear hown' hgrow hrow hbl hk r1 b1
      go_wp2_with (first | (rw [et]) | (rw [em]))
      go_roundw
      case rel => exact ⟨d, xs ++ [r], rfl, hq0, by omega, HE.out, R1.out, B1.out⟩
      case measure => simp [RowKit.intOf]; omega
end Go.Proofs.Ytgjknnacfildiaa
