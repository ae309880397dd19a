/- Long numbers: the program's product. No condition: contracts for the walks of the laws. -/
import Derived.Test.YtgjknnacfildiaaLgA
import Derived.StillTailTactics
namespace Go.Proofs.Ytgjknnacfildiaa
open Go.ChangeShapes Go.WideShapes Go.ChangeAt Go.RowKit


theorem made_long {i0 : TypeInfo} (w : World) (len : Nat) (hm : len ≤ 1048576) (hi : Try.prog.info? 3 = some i0) (hz0 : i0.zero = some (.int .i64 0)) (hz1 : i0.size = 1) (hz2 : i0.bytes = 8) :
    (Instr.makeSlice 35 (.int .i64 (len : Int)) (.int .i64 (len : Int))).run Try.prog w = .ok (.slice (some ⟨w.heap.size, 0, none⟩) len len) (w.alloc (.cells (madeCells #[.int .i64 0] len) 3)) := by
  have k := run_make (P := Try.prog) w 35 3 i0 (.int .i64 0) Try.underlying35 hi hz0 .i64 .i64 (len : Int) (len : Int) (by omega) (Int.le_refl _) (by rw [hz2]; omega) (by omega)
  rw [hz1] at k
  simp only [Int.toNat_natCast, Nat.mul_one] at k
  exact k
theorem cut_at {xs ys P : List Int} {a b : Int} (va : lgV xs = a) (vb : lgV ys = b) (hv : lgV P = lgV xs * lgV ys) (hd : LgD P) {e : Nat} (he : e ≤ P.length) (hz : ∀ k, e ≤ k → k < P.length → P.getD k 0 = 0) (hl : 0 < e → P.getD (e - 1) 0 ≠ 0) : P.take e = digs (a * b) := by
  rw [digs_cut hd he hz hl, hv, va, vb]
def TmPost (w : World) (xs : List Int) (e : Ending) (w' : World) : Prop := ∃ v, e = .returned v ∧ RdR w' w.heap.size v xs ∧ Below w.heap.size w w'
set_option maxHeartbeats 4000000 in
theorem times_impl {w : World} {b1 b2 : Nat} {v u : Value} {a b : Int} (h : RdR w b1 v (digs a)) (k : RdR w b2 u (digs b)) (a1 : 1 ≤ a) (a2 : a < pB 60) (k1 : 1 ≤ b) (k2 : b < pB 60) : Calls Try.prog 21 #[v, u] w (TmPost w (digs (a * b))) := by
  obtain ⟨i0, hi, hz0, hz1, hz2⟩ := (info_parts (P := Try.prog) (e := 3) (z := .int .i64 0) (size := 1) (bytes := 8) (by kernel_rfl) : ∃ i, Try.prog.info? 3 = some i ∧ i.zero = some (.int .i64 0) ∧ i.size = 1 ∧ i.bytes = 8)
  obtain ⟨ga, cpa, rfl, -, hga, hc, hlc, cA⟩ := h
  obtain ⟨gb, cpb, rfl, -, hgb, hc2, hlc2, cB⟩ := k
  have hla := (digs_len a (by omega) 60).2 a2
  have hlb := (digs_len b (by omega) 60).2 k2
  have hpa := digs_ne (n := a) (by omega)
  have hpb := digs_ne (n := b) (by omega)
  have va := lgV_digs a (by omega)
  have vb := lgV_digs b (by omega)
  have da := digs_dig a (by omega)
  have db := digs_dig b (by omega)
  have HCUT := Lib.hid (fun (P : List Int) hv hd (e : Nat) => cut_at (xs := digs a) (ys := digs b) (P := P) va vb hv hd (e := e))
  clear va vb
  generalize digs (a * b) = ds at *
  generalize digs a = xs at *
  generalize digs b = ys at *
  clear a1 a2 k1 k2
  have HS := Lib.hid (mul_start xs ys)
  generalize hn : xs.length = n at *
  generalize hm : ys.length = m at *
  obtain ⟨N, hN⟩ : ∃ N, N = n + m := ⟨_, rfl⟩
  rw [← hN] at HS
  have kmk := made_long w N (by omega) hi hz0 hz1 hz2
  have HR := Lib.hid (made_row w N (by omega))
  have hni : (n : Int) ≤ 60 := by omega
  have hmi : (m : Int) ≤ 60 := by omega
  have hnm : (n : Int) + (m : Int) = (N : Int) := by omega
  have HN := Lib.hid hN
  clear hi hz0 hz1 hz2 hN
  generalize madeCells #[.int .i64 0] N = cs at *
  go_enter Try.func21, Try.ntmps21
  go_wp2_with (first | (rw [hnm]) | fail)
  have HB0 : Hid (Below w.heap.size w (w.alloc (.cells cs 3))) := Lib.hid (by repeat' (first | (with_reducible exact Below.refl _ _) | (with_reducible assumption) | (with_reducible refine below_drewN ?_ _) | (with_reducible refine Below.drew ?_) | (with_reducible refine bl_alloc ?_ _) | (with_reducible refine bl_set ?_ ?_ _) | go_size | omega))
  clear kmk
  go_loopw [20] (fun i wr => ∃ (k : Nat) (P : List Int), i = .int .i64 (k : Int) ∧ k ≤ n ∧ Row wr w.heap.size (.slice (some ⟨w.heap.size, 0, none⟩) N N) P ∧ Below w.heap.size w wr ∧ Hid (MulOut xs ys k P)) (fun i _ => n - (RowKit.intOf i).toNat)
  case atStart => exact ⟨0, _, rfl, Nat.zero_le _, HR.out, HB0.out, HS⟩
  case round =>
    obtain ⟨k, P, rfl, hk, hrow, hbl, HO⟩ := hrel
    rcases Nat.lt_or_ge k n with hlt | hge
    · have ca : wr.cell? ⟨ga, k, none⟩ = some (.int .i64 (xs.getD k 0)) := by rw [hbl.cell (p := ⟨ga, k, none⟩) hga]; exact cA k (by omega)
      have hki : (k : Int) < (n : Int) := by omega
      have hx := da k (by omega)
      have HI := Lib.hid (mul_in HO.out)
      have HROW := Lib.hid hrow
      have HBL := Lib.hid hbl
      generalize hxk : xs.getD k 0 = x at ca hx
      have HXK := Lib.hid hxk
      clear hrow hbl HO hxk
      go_wp2_with fail
      go_loopw [27, 8] (fun j c wr => ∃ (l : Nat) (d : Int) (P : List Int), j = .int .i64 (l : Int) ∧ c = .int .i64 d ∧ l ≤ m ∧ 0 ≤ d ∧ d < 10000 ∧ Row wr w.heap.size (.slice (some ⟨w.heap.size, 0, none⟩) N N) P ∧ Below w.heap.size w wr ∧ Hid (MulIn xs ys k l d P)) (fun j _ _ => m - (RowKit.intOf j).toNat)
      case atStart => exact ⟨0, 0, P, rfl, rfl, Nat.zero_le _, by omega, by omega, HROW.out, HBL.out, HI⟩
      case round =>
        obtain ⟨l, d, P, rfl, rfl, hl, hd0, hd1, hrow, hbl, HJ⟩ := hrel
        obtain ⟨hNP, pc, pf, hgz⟩ := hrow.at
        rcases Nat.lt_or_ge l m with hlt2 | hge2
        · have cb : wr.cell? ⟨gb, l, none⟩ = some (.int .i64 (ys.getD l 0)) := by rw [hbl.cell (p := ⟨gb, l, none⟩) hgb]; exact cB l (by omega)
          have hli : (l : Int) < (m : Int) := by omega
          have hy := db l (by omega)
          have hxy := mul_bd hx hy
          have hNk := HN.out
          obtain ⟨kl, hkl⟩ : ∃ kl, kl = k + l := ⟨_, rfl⟩
          have hkli : (k : Int) + (l : Int) = (kl : Int) := by omega
          have hklN : (kl : Int) < (N : Int) := by omega
          have cp := pc kl (by omega)
          have fp := pf kl
          obtain ⟨⟨ht0, ht1⟩, hin⟩ := mul_round da db (by omega) (by omega) HJ.out
          rw [HXK.out] at ht0 ht1 hin
          have hpd := HJ.out.2.1 (k + l) (by omega)
          rw [← hkl] at ht0 ht1 hin hpd
          have et := Int.tdiv_eq_ediv_of_nonneg (b := 10000) ht0
          have em := Int.tmod_eq_emod_of_nonneg (b := 10000) ht0
          have HIN := Lib.hid hin
          have hr0 : 0 ≤ (d + (P.getD kl 0 + x * ys.getD l 0)) % 10000 := by omega
          have hr1 : (d + (P.getD kl 0 + x * ys.getD l 0)) % 10000 < 10000 := by omega
          have hq0 : 0 ≤ (d + (P.getD kl 0 + x * ys.getD l 0)) / 10000 := by omega
          have hq1 : (d + (P.getD kl 0 + x * ys.getD l 0)) / 10000 < 10000 := by omega
          clear hin pc pf HJ hNk hkl
          generalize hqq : (d + (P.getD kl 0 + x * ys.getD l 0)) / 10000 = q at *
          generalize hrr : (d + (P.getD kl 0 + x * ys.getD l 0)) % 10000 = r at *
          have hput := hrow.put hNP kl r
          have R1 := Lib.hid hput.1
          have B1 := Lib.hid (hbl.setCell (p := ⟨w.heap.size, kl, none⟩) (Nat.le_refl _) (.int .i64 r))
          clear hput hrow hbl hqq hrr
          generalize P.getD kl 0 = p at *
          generalize ys.getD l 0 = y at *
          go_wp2_with (first | (rw [hkli]) | (rw [et]) | (rw [em]) | fail)
          go_roundw
          case rel => exact ⟨l + 1, q, P.set kl r, by go_num, rfl, by omega, hq0, hq1, R1.out, B1.out, HIN⟩
          case measure => simp [RowKit.intOf] <;> omega
        · have e : l = m := by omega
          subst e
          have hNk := HN.out
          obtain ⟨kl, hkl⟩ : ∃ kl, kl = k + l := ⟨_, rfl⟩
          have hkli : (k : Int) + (l : Int) = (kl : Int) := by omega
          have hklN : (kl : Int) < (N : Int) := by omega
          have cp := pc kl (by omega)
          have fp := pf kl
          have hin := mul_close (a := xs) (b := ys) (i := k) (c := d) (P := P) (by omega) (hm.symm ▸ HJ.out)
          rw [hm, ← hkl] at hin
          have HIN := Lib.hid hin
          have hput := hrow.put hNP kl d
          have R1 := Lib.hid hput.1
          have B1 := Lib.hid (hbl.setCell (p := ⟨w.heap.size, kl, none⟩) (Nat.le_refl _) (.int .i64 d))
          clear hput hrow hbl hin pc pf HJ hNk hkl
          generalize P.getD kl 0 = p at *
          go_wp2_with (first | (rw [hkli]) | fail)
          go_roundw
          case rel => exact ⟨k + 1, P.set kl d, by go_num, by omega, R1.out, B1.out, HIN⟩
          case measure => simp [RowKit.intOf] <;> omega
    · have e : k = n := by omega
      subst e
      obtain ⟨hNP, pc, pf, hgz⟩ := hrow.at
      have hO := HO.out
      have hv := mul_end (hn ▸ hO)
      have hd := hO.2.1
      have HROW := Lib.hid hrow
      have HBL := Lib.hid hbl
      have hNi : (N : Int) ≤ 120 := by omega
      have HNP := Lib.hid hNP
      clear hrow hbl HO hO hNP
      go_wp2_with fail
      go_loop [11] (fun i => ∃ e : Nat, i = .int .i64 (e : Int) ∧ e ≤ N ∧ (∀ j, e ≤ j → j < P.length → P.getD j 0 = 0)) (fun i => (RowKit.intOf i).toNat)
      case atStart => exact ⟨N, rfl, Nat.le_refl _, fun j h1 h2 => by have := HNP.out; omega⟩
      case round =>
        obtain ⟨e, rfl, he, hz⟩ := hrel
        rcases Nat.eq_zero_or_pos e with h0 | h0
        · subst h0
          have hNP := HNP.out
          have q1 := HROW.out.cut 0 (Nat.zero_le _)
          have q2 := HCUT.out P hv hd 0 (Nat.zero_le _) hz (fun h => by omega)
          rw [q2] at q1
          have Q1 := Lib.hid q1
          clear q1 q2 hz pc pf hNP
          go_wp2_with fail
          go_ret
          exact ⟨_, rfl, Q1.out, HBL.out⟩
        · obtain ⟨i, rfl⟩ : ∃ i, e = i + 1 := ⟨e - 1, by omega⟩
          have hNP := HNP.out
          have cp := pc i (by omega)
          have e1 : ((i + 1 : Nat) : Int) - 1 = (i : Int) := by omega
          have hip : (0 : Int) < ((i + 1 : Nat) : Int) := by omega
          have hiN : ((i + 1 : Nat) : Int) ≤ (N : Int) := by omega
          have hiN2 : (i : Int) < (N : Int) := by omega
          by_cases hp : P.getD i 0 = 0
          · have HZ : Hid (∀ j, i ≤ j → j < P.length → P.getD j 0 = 0) := Lib.hid (fun j h1 h2 => by
              rcases Nat.eq_or_lt_of_le h1 with h3 | h3
              · subst h3; exact hp
              · exact hz j h3 h2)
            rw [hp] at cp
            clear hz pc pf hp hNP
            generalize hI : ((i + 1 : Nat) : Int) = I at *
            go_wp2_with (first | (rw [e1]) | fail)
            go_round
            case rel => exact ⟨i, (by first | rfl | go_num), by omega, HZ.out⟩
            case measure => simp [RowKit.intOf] <;> omega
          · have q1 := HROW.out.cut (i + 1) (by omega)
            have q2 := HCUT.out P hv hd (i + 1) (by omega) hz (fun h => hp)
            rw [q2] at q1
            have Q1 := Lib.hid q1
            clear q1 q2 hz pc pf hNP
            generalize P.getD i 0 = p at *
            generalize hI : ((i + 1 : Nat) : Int) = I at *
            have hIn : I.toNat = i + 1 := by omega
            go_wp2_with (first | (rw [e1]) | (rw [hIn]) | fail)
            go_ret
            exact ⟨_, rfl, Q1.out, HBL.out⟩
end Go.Proofs.Ytgjknnacfildiaa
