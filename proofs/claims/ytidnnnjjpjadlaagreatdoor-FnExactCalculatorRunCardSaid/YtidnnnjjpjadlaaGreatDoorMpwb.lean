/- TwoPower of the program. No condition: contracts for the walks of the laws. -/
import Derived.Test.YtidnnnjjpjadlaaGreatDoorMpwa
namespace Go.Proofs.YtidnnnjjpjadlaaGreatDoor
open Go.ChangeShapes Go.WideShapes Go.ChangeAt Go.RowKit

theorem tp_yes {x : Int} {j : Nat} (h : x / 2 ^ (16 - (j + 1)) % 2 = 1) : tpL x (j + 1) = tpL x j * rtL (j + 1) / 268435456 ∧ tpH x (j + 1) = -(-(tpH x j * rtH (j + 1)) / 268435456) := by
  constructor <;> (first | (show (if _ then _ else _) = _; rw [if_pos h]))
theorem tp_no {x : Int} {j : Nat} (h : ¬ x / 2 ^ (16 - (j + 1)) % 2 = 1) : tpL x (j + 1) = tpL x j ∧ tpH x (j + 1) = tpH x j := by
  constructor <;> (first | (show (if _ then _ else _) = _; rw [if_neg h]))
set_option maxHeartbeats 8000000 in
theorem tpow_impl (x : Int) (w : World) (h1 : 0 ≤ x) (h2 : x ≤ 65535) : Calls Tryz.prog 101 #[.int .i64 x] w fun e w' => e = .returned (.agg #[.int .i64 (tpL x 16), .int .i64 (tpH x 16)]) ∧ Below w.heap.size w w' := by
  go_enter Tryz.func101, Tryz.ntmps101
  go_wp2_with fail
  refine (alone_any 268435456 _).mono ?_
  rintro e w1 ⟨rfl, hb⟩
  have bz := ((Blk.new w 85 #[.int .i64 0, .int .i64 0]).below hb (by simp)).alloc (.cells #[.int .i64 268435456, .int .i64 268435456] 85)
  have hw1 := unalloc hb
  have hs1 := hw1.size
  have Bz := Lib.hid bz
  have Bp := Lib.hid (Blk.new w1 85 #[.int .i64 268435456, .int .i64 268435456])
  have HB := Lib.hid (bl_alloc hw1 (.cells #[.int .i64 268435456, .int .i64 268435456] 85))
  have hne1 : w.heap.size < w1.heap.size := by rw [World.size_alloc] at hb; have := hb.size; simp at this; omega
  clear hb bz hw1
  go_wp2_with fail
  refine (troot_impl 0 _ (by omega)).mono ?_
  rintro e w2 ⟨rfl, hb⟩
  have hs2 := hb.size
  rw [World.size_alloc] at hs2
  have Bz := Lib.hid ((Bz.out.below hb Bz.out.lt).alloc (.cells #[.int .i64 (rtL 0), .int .i64 (rtH 0)] 85))
  have Bp := Lib.hid ((Bp.out.below hb Bp.out.lt).alloc (.cells #[.int .i64 (rtL 0), .int .i64 (rtH 0)] 85))
  have Br := Lib.hid (Blk.new w2 85 #[.int .i64 (rtL 0), .int .i64 (rtH 0)])
  have HB := Lib.hid (bl_alloc (bl_behind hb HB.out) (.cells #[.int .i64 (rtL 0), .int .i64 (rtH 0)] 85))
  have hne2 : w1.heap.size < w2.heap.size := by omega
  clear hb
  go_wp2_with fail
  go_loopw [5] (fun i wr => ∃ j : Nat, i = .int .i64 ((j : Int) + 1) ∧ j ≤ 16 ∧ Blk wr w1.heap.size 85 #[.int .i64 (tpL x j), .int .i64 (tpH x j)] ∧ Blk wr w2.heap.size 85 #[.int .i64 (rtL j), .int .i64 (rtH j)] ∧ Blk wr w.heap.size 85 #[.int .i64 0, .int .i64 0] ∧ Below w.heap.size w wr) (fun i _ => (17 - RowKit.intOf i).toNat)
  case atStart => exact ⟨0, rfl, Nat.zero_le _, Bp.out, Br.out, Bz.out, HB.out⟩
  case round =>
    obtain ⟨j, rfl, hj, bp, br, bz, hbl⟩ := hrel
    obtain ⟨kp0, kp1, fp0, fp1, lp⟩ := blk2 bp
    obtain ⟨kr0, kr1, fr0, fr1, lr⟩ := blk2 br
    obtain ⟨kz0, kz1, fz0, fz1, lz⟩ := blk2 bz
    have Bp := Lib.hid bp
    have Br := Lib.hid br
    have Bz := Lib.hid bz
    have HB := Lib.hid hbl
    clear bp br bz hbl
    rcases Nat.lt_or_ge j 16 with hlt | hge
    · have hji : (j : Int) < 16 := by omega
      obtain ⟨r1, r2, r3⟩ := rt_bd j
      have SQ := Lib.hid (fun w' => ssq_impl (rtL j) (rtH j) w' r1 r2 r3)
      clear r1 r2 r3
      go_wp2_with fail
      refine (SQ.out _).mono ?_
      rintro e w3 ⟨rfl, hb⟩
      have hw := bl_behind (w := w) hb (by have hb0 := HB.out; repeat (first | (with_reducible exact hb0) | (with_reducible refine below_drewN ?_ _) | (with_reducible refine Below.drew ?_) | (with_reducible refine bl_alloc ?_ _))); have bp := Blk.below (g := w1.heap.size) (t := 85) (cs := #[.int .i64 (tpL x j), .int .i64 (tpH x j)]) (by repeat (first | (with_reducible exact Bp.out) | (with_reducible exact Blk.new _ _ _) | (with_reducible refine Blk.drewN ?_ _) | (with_reducible refine Blk.drew ?_) | (with_reducible refine Blk.alloc ?_ _))) hb (by first | (have := Bp.out.lt; first | omega | (simp; omega)) | (simp; done) | (simp; omega)); have Bp := Lib.hid bp; obtain ⟨kp0, kp1, fp0, fp1, lp⟩ := blk2 bp; clear bp; have br := Blk.below (g := w2.heap.size) (t := 85) (cs := #[.int .i64 (rtL j), .int .i64 (rtH j)]) (by repeat (first | (with_reducible exact Br.out) | (with_reducible exact Blk.new _ _ _) | (with_reducible refine Blk.drewN ?_ _) | (with_reducible refine Blk.drew ?_) | (with_reducible refine Blk.alloc ?_ _))) hb (by first | (have := Br.out.lt; first | omega | (simp; omega)) | (simp; done) | (simp; omega)); have Br := Lib.hid br; obtain ⟨kr0, kr1, fr0, fr1, lr⟩ := blk2 br; clear br; have bz := Blk.below (g := w.heap.size) (t := 85) (cs := #[.int .i64 0, .int .i64 0]) (by repeat (first | (with_reducible exact Bz.out) | (with_reducible exact Blk.new _ _ _) | (with_reducible refine Blk.drewN ?_ _) | (with_reducible refine Blk.drew ?_) | (with_reducible refine Blk.alloc ?_ _))) hb (by first | (have := Bz.out.lt; first | omega | (simp; omega)) | (simp; done) | (simp; omega)); have Bz := Lib.hid bz; obtain ⟨kz0, kz1, fz0, fz1, lz⟩ := blk2 bz; clear bz; have HB := Lib.hid hw; clear hw hb
      have hn1 : w1.heap.size ≠ w2.heap.size := by omega
      have hn2 : w.heap.size ≠ w2.heap.size := by omega
      have hn3 : w2.heap.size ≠ w1.heap.size := by omega
      have hn4 : w.heap.size ≠ w1.heap.size := by omega
      have br2 : Blk _ w2.heap.size 85 #[.int .i64 (rtL (j + 1)), .int .i64 (rtH (j + 1))] := (Br.out.set 0 (.int .i64 (ssL (rtL j)))).set 1 (.int .i64 (ssH (rtH j)))
      have bp2 := (Bp.out.far (p := ⟨w2.heap.size, 0, none⟩) hn1 (.int .i64 (ssL (rtL j)))).far (p := ⟨w2.heap.size, 1, none⟩) hn1 (.int .i64 (ssH (rtH j)))
      have bz2 := (Bz.out.far (p := ⟨w2.heap.size, 0, none⟩) hn2 (.int .i64 (ssL (rtL j)))).far (p := ⟨w2.heap.size, 1, none⟩) hn2 (.int .i64 (ssH (rtH j)))
      have hb2 := (HB.out.setCell (p := ⟨w2.heap.size, 0, none⟩) (by show w.heap.size ≤ w2.heap.size; omega) (.int .i64 (ssL (rtL j)))).setCell (p := ⟨w2.heap.size, 1, none⟩) (by show w.heap.size ≤ w2.heap.size; omega) (.int .i64 (ssH (rtH j)))
      have ho := and_one (x / 2 ^ (15 - j))
      have e15 : 16 - (j + 1) = 15 - j := by omega
      have Bp := Lib.hid bp2
      have Br := Lib.hid br2
      have Bz := Lib.hid bz2
      have HB := Lib.hid hb2
      clear bp2 br2 bz2 hb2
      by_cases hbit : x / 2 ^ (15 - j) % 2 = 1
      · have HT := Lib.hid (tp_yes (x := x) (j := j) (by rw [e15]; exact hbit))
        have hq : (bits .and .i64 (x / 2 ^ (15 - j)) 1 == 1) = true := by rw [ho, hbit]; rfl
        obtain ⟨t1, t2⟩ := tpL_le x j
        have t3 := tpH_le x (k := j) (by omega)
        obtain ⟨r1, r2, r3⟩ := rt_bd (j + 1)
        have SM := Lib.hid (fun w' => smul_impl (tpL x j) (tpH x j) (ssL (rtL j)) (ssH (rtH j)) w' t1 t2 t3 r1 r2 r3)
        clear ho hbit e15 t1 t2 t3 r1 r2 r3
        go_wp2_with fail
        refine (SM.out _).mono ?_
        rintro e w4 ⟨rfl, hb⟩
        have bp := Bp.out.below hb Bp.out.lt
        have br := Br.out.below hb Br.out.lt
        have bz := Bz.out.below hb Bz.out.lt
        have hw := bl_behind hb HB.out
        obtain ⟨kp0, kp1, fp0, fp1, lp⟩ := blk2 bp
        obtain ⟨kr0, kr1, fr0, fr1, lr⟩ := blk2 br
        have hh := (bp.set 0 (.int .i64 (tpL x j * ssL (rtL j) / 268435456))).set 1 (.int .i64 (-(-(tpH x j * ssH (rtH j)) / 268435456)))
        have ht := HT.out
        rw [rtL_succ, rtH_succ] at ht
        have Bp2 : Hid (Blk _ w1.heap.size 85 #[.int .i64 (tpL x (j + 1)), .int .i64 (tpH x (j + 1))]) := Lib.hid (by rw [ht.1, ht.2]; exact hh)
        have Br2 := Lib.hid ((br.far (p := ⟨w1.heap.size, 0, none⟩) hn3 (.int .i64 (tpL x j * ssL (rtL j) / 268435456))).far (p := ⟨w1.heap.size, 1, none⟩) hn3 (.int .i64 (-(-(tpH x j * ssH (rtH j)) / 268435456))))
        have Bz2 := Lib.hid ((bz.far (p := ⟨w1.heap.size, 0, none⟩) hn4 (.int .i64 (tpL x j * ssL (rtL j) / 268435456))).far (p := ⟨w1.heap.size, 1, none⟩) hn4 (.int .i64 (-(-(tpH x j * ssH (rtH j)) / 268435456))))
        have HB2 := Lib.hid ((hw.setCell (p := ⟨w1.heap.size, 0, none⟩) (by show w.heap.size ≤ w1.heap.size; omega) (.int .i64 (tpL x j * ssL (rtL j) / 268435456))).setCell (p := ⟨w1.heap.size, 1, none⟩) (by show w.heap.size ≤ w1.heap.size; omega) (.int .i64 (-(-(tpH x j * ssH (rtH j)) / 268435456))))
        clear hb bp br bz hw hh ht
        go_wp2_with fail
        go_roundw
        case rel => exact ⟨j + 1, by go_num, by omega, Bp2.out, Br2.out, Bz2.out, HB2.out⟩
        case measure => simp [RowKit.intOf] <;> omega
      · have HT := tp_no (x := x) (j := j) (by rw [e15]; exact hbit)
        have hq : (bits .and .i64 (x / 2 ^ (15 - j)) 1 == 1) = false := by rw [ho]; exact beq_eq_false_iff_ne.2 hbit
        have bp := Bp.out
        rw [← HT.1, ← HT.2] at bp
        have Bp2 := Lib.hid bp
        clear ho hbit e15 HT bp
        go_wp2_with fail
        go_roundw
        case rel => exact ⟨j + 1, by go_num, by omega, Bp2.out, Br.out, Bz.out, HB.out⟩
        case measure => simp [RowKit.intOf] <;> omega
    · have e : j = 16 := by omega
      subst e
      go_wp2_with fail
      have bk : Blk _ w.heap.size 85 #[.int .i64 (tpL x 16), .int .i64 (tpH x 16)] := (Bz.out.set 0 (.int .i64 (tpL x 16))).set 1 (.int .i64 (tpH x 16))
      obtain ⟨q0, q1, -, -, -⟩ := blk2 bk
      refine bodyPost_ret (v := .agg #[.int .i64 (tpL x 16), .int .i64 (tpH x 16)]) (by simp [results, Tryz.results101, go_sem, q0, q1]) rfl ?_
      have hb := HB.out
      exact ⟨rfl, (by repeat' (first | (with_reducible exact Below.refl _ _) | (with_reducible assumption) | (with_reducible refine below_drewN ?_ _) | (with_reducible refine Below.drew ?_) | (with_reducible refine bl_alloc ?_ _) | (with_reducible refine bl_set ?_ ?_ _) | go_size | omega))⟩
end Go.Proofs.YtidnnnjjpjadlaaGreatDoor

/- TwoPower of the reference. No condition: contracts for the walks of the laws. -/
namespace Go.Proofs.YtidnnnjjpjadlaaGreatDoor
open Go.ChangeShapes Go.WideShapes Go.ChangeAt Go.RowKit

set_option maxHeartbeats 8000000 in
theorem tpow_spec (x : Int) (w : World) (h1 : 0 ≤ x) (h2 : x ≤ 65535) : Calls Tryz.prog 70 #[.int .i64 x] w fun e w' => e = .returned (.agg #[.int .i64 (tpL x 16), .int .i64 (tpH x 16)]) ∧ Below w.heap.size w w' := by
  have Bz := Lib.hid ((Blk.new w 85 #[.int .i64 0, .int .i64 0]).alloc (.cells #[.int .i64 268435456, .int .i64 268435456] 85))
  have Bp : Hid (Blk ((w.alloc (.cells #[.int .i64 0, .int .i64 0] 85)).alloc (.cells #[.int .i64 268435456, .int .i64 268435456] 85)) (w.heap.size + 1) 85 #[.int .i64 268435456, .int .i64 268435456]) := Lib.hid (Blk.newAt (by simp))
  have HB := Lib.hid (bl_alloc (bl_alloc (Below.refl w.heap.size w) (.cells #[.int .i64 0, .int .i64 0] 85)) (.cells #[.int .i64 268435456, .int .i64 268435456] 85))
  have hn4 : w.heap.size ≠ w.heap.size + 1 := by omega
  go_enter Tryz.func70, Tryz.ntmps70
  go_wp2_with (first | (go_at_call 73; refine (l1in_yes _ _ _ _ (by omega) (by omega)).mono ?_; rintro e w' ⟨rfl, rfl⟩) | fail)
  go_loopw [4] (fun i wr => ∃ j : Nat, i = .int .i64 ((j : Int) + 1) ∧ j ≤ 16 ∧ Blk wr (w.heap.size + 1) 85 #[.int .i64 (tpL x j), .int .i64 (tpH x j)] ∧ Blk wr w.heap.size 85 #[.int .i64 0, .int .i64 0] ∧ Below w.heap.size w wr) (fun i _ => (17 - RowKit.intOf i).toNat)
  case atStart => exact ⟨0, rfl, Nat.zero_le _, Bp.out, Bz.out, HB.out⟩
  case round =>
    obtain ⟨j, rfl, hj, bp, bz, hbl⟩ := hrel
    obtain ⟨kp0, kp1, fp0, fp1, lp⟩ := blk2 bp
    obtain ⟨kz0, kz1, fz0, fz1, lz⟩ := blk2 bz
    have Bp := Lib.hid bp
    have Bz := Lib.hid bz
    have HB := Lib.hid hbl
    clear bp bz hbl
    rcases Nat.lt_or_ge j 16 with hlt | hge
    · have hji : (j : Int) < 16 := by omega
      have e15 : 16 - (j + 1) = 15 - j := by omega
      have hxp : 0 ≤ x / 2 ^ (15 - j) := Int.ediv_nonneg h1 (by have : 0 < (2 : Int) ^ (15 - j) := Int.pow_pos (by decide); omega)
      have hmo := Int.tmod_eq_emod_of_nonneg (b := 2) hxp
      by_cases hbit : x / 2 ^ (15 - j) % 2 = 1
      · have HT := Lib.hid (tp_yes (x := x) (j := j) (by rw [e15]; exact hbit))
        have hq : ((x / 2 ^ (15 - j)).tmod 2 == 1) = true := by rw [hmo, hbit]; rfl
        obtain ⟨t1, t2⟩ := tpL_le x j
        have t3 := tpH_le x (k := j) (by omega)
        obtain ⟨r1, r2, r3⟩ := rt_bd (j + 1)
        have SM := Lib.hid (fun w' => smul_spec (tpL x j) (tpH x j) (rtL (j + 1)) (rtH (j + 1)) w' t1 t2 t3 r1 r2 r3)
        have TR := Lib.hid (fun w' => troot_spec (j + 1) w' (by omega))
        rw [show ((j + 1 : Nat) : Int) = (j : Int) + 1 from rfl] at TR
        have ht := HT.out
        clear hbit e15 t1 t2 t3 r1 r2 r3 hmo hxp
        generalize rtL (j + 1) = RL at *
        generalize rtH (j + 1) = RH at *
        have HTT := Lib.hid ht
        clear ht HT
        go_wp2_with fail
        go_region_with
          (first
           | (go_at_call 96; with_reducible refine Calls.mono (TR.out _) ?_; rintro e w3 ⟨rfl, hb⟩; (repeat (replace hb := undrew hb)); have bp := Bp.out.below hb Bp.out.lt; have bz := Bz.out.below hb Bz.out.lt; have HB := Lib.hid (bl_behind hb HB.out); obtain ⟨kp0, kp1, fp0, fp1, lp⟩ := blk2 bp; obtain ⟨kz0, kz1, fz0, fz1, lz⟩ := blk2 bz; have Bp := Lib.hid bp; have Bz := Lib.hid bz; clear bp bz hb)
           | (go_at_call 95; with_reducible refine Calls.mono (SM.out _) ?_; rintro e w4 ⟨rfl, hb⟩; (repeat (replace hb := undrew hb)); have bp := Bp.out.below hb Bp.out.lt; have bz := Bz.out.below hb Bz.out.lt; have HB := Lib.hid (bl_behind hb HB.out); obtain ⟨kp0, kp1, fp0, fp1, lp⟩ := blk2 bp; obtain ⟨kz0, kz1, fz0, fz1, lz⟩ := blk2 bz; have Bp := Lib.hid bp; have Bz := Lib.hid bz; clear bp bz hb))
        all_goals
          have ht := HTT.out
          have hh := (Bp.out.set 0 (.int .i64 (tpL x j * RL / 268435456))).set 1 (.int .i64 (-(-(tpH x j * RH) / 268435456)))
          have Bp2 : Hid (Blk _ (w.heap.size + 1) 85 #[.int .i64 (tpL x (j + 1)), .int .i64 (tpH x (j + 1))]) := Lib.hid (by rw [ht.1, ht.2]; exact hh)
          have Bz2 := Lib.hid ((Bz.out.far (p := ⟨w.heap.size + 1, 0, none⟩) hn4 (.int .i64 (tpL x j * RL / 268435456))).far (p := ⟨w.heap.size + 1, 1, none⟩) hn4 (.int .i64 (-(-(tpH x j * RH) / 268435456))))
          have HB2 := Lib.hid ((HB.out.setCell (p := ⟨w.heap.size + 1, 0, none⟩) (Nat.le_succ _) (.int .i64 (tpL x j * RL / 268435456))).setCell (p := ⟨w.heap.size + 1, 1, none⟩) (Nat.le_succ _) (.int .i64 (-(-(tpH x j * RH) / 268435456))))
          clear hh ht
          go_wp2_with fail
          go_roundw
          case rel => exact ⟨j + 1, by go_num, by omega, Bp2.out, Bz2.out, HB2.out⟩
          case measure => simp [RowKit.intOf] <;> omega
      · have HT := tp_no (x := x) (j := j) (by rw [e15]; exact hbit)
        have hq : ((x / 2 ^ (15 - j)).tmod 2 == 1) = false := by rw [hmo]; exact beq_eq_false_iff_ne.2 hbit
        have bp := Bp.out
        rw [← HT.1, ← HT.2] at bp
        have Bp2 := Lib.hid bp
        clear hbit e15 HT bp hmo hxp
        go_wp2_with fail
        go_roundw
        case rel => exact ⟨j + 1, by go_num, by omega, Bp2.out, Bz.out, HB.out⟩
        case measure => simp [RowKit.intOf] <;> omega
    · have e : j = 16 := by omega
      subst e
      go_wp2_with fail
      have bk : Blk _ w.heap.size 85 #[.int .i64 (tpL x 16), .int .i64 (tpH x 16)] := (Bz.out.set 0 (.int .i64 (tpL x 16))).set 1 (.int .i64 (tpH x 16))
      obtain ⟨q0, q1, -, -, -⟩ := blk2 bk
      refine bodyPost_ret (v := .agg #[.int .i64 (tpL x 16), .int .i64 (tpH x 16)]) (by simp [results, Tryz.results70, go_sem, q0, q1]) rfl ?_
      have hb := HB.out
      exact ⟨rfl, (by repeat' (first | (with_reducible exact Below.refl _ _) | (with_reducible assumption) | (with_reducible refine below_drewN ?_ _) | (with_reducible refine Below.drew ?_) | (with_reducible refine bl_alloc ?_ _) | (with_reducible refine bl_set ?_ ?_ _) | go_size | omega))⟩
end Go.Proofs.YtidnnnjjpjadlaaGreatDoor

/- PowerStored of both, where the number fits. No condition: contracts for the walks of the laws. -/
namespace Go.Proofs.YtidnnnjjpjadlaaGreatDoor
open Go.ChangeShapes Go.WideShapes Go.ChangeAt Go.RowKit

theorem emod_bd' (x : Int) {m : Int} (hm : 0 < m) : 0 ≤ x % m ∧ x % m < m := ⟨Int.emod_nonneg _ (by omega), Int.emod_lt_of_pos _ (by omega)⟩
theorem pw_rest (n : Int) {q : Int} (h3 : 0 ≤ q) (h4 : q ≤ 16) : 0 ≤ n % 2 ^ q.toNat * 2 ^ (16 - q).toNat ∧ n % 2 ^ q.toNat * 2 ^ (16 - q).toNat ≤ 65535 ∧ n - n / 2 ^ q.toNat * 2 ^ q.toNat = n % 2 ^ q.toNat := by
  obtain ⟨u1, u2⟩ := p2_bd16 h3 h4
  obtain ⟨v1, v2⟩ := p2_bd16 (k := 16 - q) (by omega) (by omega)
  obtain ⟨r1, r2⟩ := emod_bd' n (m := 2 ^ q.toNat) (by omega)
  have e : (2 : Int) ^ q.toNat * 2 ^ (16 - q).toNat = 65536 := by
    rw [← pow_toNat h3 (by omega), show q + (16 - q) = 16 by omega]; decide
  have hd := Int.mul_ediv_add_emod n (2 ^ q.toNat)
  refine ⟨Int.mul_nonneg r1 (by omega), ?_, ?_⟩
  · have h5 := Int.mul_le_mul_of_nonneg_right (show n % 2 ^ q.toNat ≤ 2 ^ q.toNat - 1 by omega) (show (0 : Int) ≤ 2 ^ (16 - q).toNat by omega)
    rw [Int.sub_mul, e] at h5
    omega
  · rw [Int.mul_comm] at hd; omega
set_option maxHeartbeats 1000000 in
theorem fsh_any (n k : Int) (w : World) (h1 : -1152921504606846976 ≤ n) (h2 : n ≤ 1152921504606846976) (h3 : 0 ≤ k) (h4 : k ≤ 60) : Calls Tryz.prog 100 #[.int .i64 n, .int .i64 k] w fun e w' => e = .returned (.int .i64 (n / 2 ^ k.toNat)) ∧ w = w' := by
  go_enter Tryz.func100, Tryz.ntmps100
  go_wp2_with (first | (go_at_call 121; refine (within_yes _ _ _ (by omega) (by omega) (by omega) (by omega)).mono ?_; rintro e w' ⟨rfl, rfl⟩) | go_in)
  go_ret
  exact ⟨rfl, rfl⟩
set_option maxRecDepth 100000 in
set_option maxHeartbeats 8000000 in
theorem pst_impl (p q n : Int) (w : World) (hf : fitB p q n = true) : Calls Tryz.prog 81 #[.agg #[.int .i64 p, .int .i64 q], .int .i64 n] w fun e w' => e = .returned (.tuple #[.int .i64 (pwN p q n), .bool (pwOk p q n)]) ∧ Below w.heap.size w w' := by
  have FA := Lib.hid (fun w' => fits_impl p q n w')
  rw [hf] at FA
  obtain ⟨⟨h1, h2, h3, h4⟩, n1, n2⟩ := fitB_bd hf
  obtain ⟨u1, u2⟩ := p2_bd16 h3 h4
  obtain ⟨v1, v2⟩ := p2_bd16 (k := 16 - q) (by omega) (by omega)
  obtain ⟨g1, g2⟩ := pw_bd h1 h2 h3 h4
  have hq := ediv_abs (a := n) (b := 2 ^ q.toNat) (M := 268435456) u1 n1 n2 (by omega)
  obtain ⟨hx0, hx1, hrest⟩ := pw_rest n h3 h4
  obtain ⟨tl1, tl2⟩ := tpL_le (n % 2 ^ q.toNat * 2 ^ (16 - q).toNat) 16
  have tl3 := tpH_le (n % 2 ^ q.toNat * 2 ^ (16 - q).toNat) (k := 16) (Nat.le_refl _)
  have hm1 := mul_absI (x := n / 2 ^ q.toNat) (y := 2 ^ q.toNat) (N := 268435456) (M := 65536) hq.1 hq.2 (by omega) u2 (by omega) (by omega)
  have hr1 := emod_bd' n (m := 2 ^ q.toNat) (by omega)
  have hw1 : IntKind.i64.wrap (2 ^ q.toNat) = 2 ^ q.toNat := by rw [IntKind.wrap_i64]; omega
  have hFS := Lib.hid (fun w' => fsh_any n q w' (by omega) (by omega) h3 (by omega))
  have TP := Lib.hid (fun w' => tpow_impl (n % 2 ^ q.toNat * 2 ^ (16 - q).toNat) w' hx0 hx1)
  have GR := Lib.hid (fun w' => fm_greatest p q w' h1 h2 h3 h4)
  have KF := fun (a b : Int) (w' : World) => (show (Instr.field 85 (.agg #[.int .i64 a, .int .i64 b]) 0).run Tryz.prog w' = .ok (.int .i64 a) w' by kernel_rfl)
  have HB := Lib.hid (Below.refl w.heap.size w)
  have Bx := Lib.hid (Blk.new w 24 #[.int .i64 p, .int .i64 q])
  obtain ⟨sh, hsh⟩ : ∃ sh, 28 - q - n / 2 ^ q.toNat = sh := ⟨_, rfl⟩
  have RS := Lib.hid (fun w' (ha : 0 < sh) (hb : sh ≤ 60) => rsg_impl (tpL (n % 2 ^ q.toNat * 2 ^ (16 - q).toNat) 16) sh w' (by omega) (by omega) (by omega) hb)
  have KT : Hid (sh ≤ 0 → pwN p q n = pw p q - 1 ∧ pwOk p q n = false) := Lib.hid (fun h => pw_top (by omega))
  have KL : Hid (60 < sh → pwN p q n = 0 ∧ pwOk p q n = true) := Lib.hid (fun h => pw_low (by omega))
  have KM : Hid (0 < sh → sh ≤ 60 → pwN p q n = cutV p q (rnd (tpL (n % 2 ^ q.toNat * 2 ^ (16 - q).toNat) 16) (2 ^ sh.toNat)) ∧ pwOk p q n = (cutV p q (rnd (tpL (n % 2 ^ q.toNat * 2 ^ (16 - q).toNat) 16) (2 ^ sh.toNat)) == rnd (tpL (n % 2 ^ q.toNat * 2 ^ (16 - q).toNat) 16) (2 ^ sh.toNat))) := Lib.hid (fun ha hb => by
    rw [← hsh]; exact pw_mid (by omega) (by omega))
  clear hf tl1 tl2 tl3
  generalize hlo : tpL (n % 2 ^ q.toNat * 2 ^ (16 - q).toNat) 16 = lo at *
  generalize tpH (n % 2 ^ q.toNat * 2 ^ (16 - q).toNat) 16 = hi at *
  generalize pwN p q n = PN at *
  generalize pwOk p q n = PO at *
  rcases (by omega : sh ≤ 0 ∨ 60 < sh ∨ (0 < sh ∧ sh ≤ 60)) with hc | hc | ⟨hc, hc2⟩
  all_goals
    go_enter Tryz.func81, Tryz.ntmps81
    go_wp2_with fail
    refine (FA.out _).mono ?_
    rintro e w1 ⟨rfl, hb⟩
    have hw := bl_behind (w := w) hb (by have hb0 := HB.out; repeat (first | (with_reducible exact hb0) | (with_reducible refine below_drewN ?_ _) | (with_reducible refine Below.drew ?_) | (with_reducible refine bl_alloc ?_ _))); have bx := Blk.below (g := w.heap.size) (t := 24) (cs := #[.int .i64 p, .int .i64 q]) (by repeat (first | (with_reducible exact Bx.out) | (with_reducible exact Blk.new _ _ _) | (with_reducible refine Blk.drewN ?_ _) | (with_reducible refine Blk.drew ?_) | (with_reducible refine Blk.alloc ?_ _))) hb (by first | (have := Bx.out.lt; first | omega | (simp; omega)) | (simp; done) | (simp; omega)); have Bx := Lib.hid bx; obtain ⟨kx0, kx1, fx0, fx1, lx⟩ := blk2 bx; clear bx; have HB := Lib.hid hw; clear hw hb
    go_wp2_with fail
    refine (hFS.out _).mono ?_
    rintro e w2 ⟨rfl, rfl⟩
    go_wp2_with (first | (rw [hrest]) | fail)
    refine (TP.out _).mono ?_
    rintro e w3 ⟨rfl, hb⟩
    have hw := bl_behind (w := w) hb (by have hb0 := HB.out; repeat (first | (with_reducible exact hb0) | (with_reducible refine below_drewN ?_ _) | (with_reducible refine Below.drew ?_) | (with_reducible refine bl_alloc ?_ _))); have bx := Blk.below (g := w.heap.size) (t := 24) (cs := #[.int .i64 p, .int .i64 q]) (by repeat (first | (with_reducible exact Bx.out) | (with_reducible exact Blk.new _ _ _) | (with_reducible refine Blk.drewN ?_ _) | (with_reducible refine Blk.drew ?_) | (with_reducible refine Blk.alloc ?_ _))) hb (by first | (have := Bx.out.lt; first | omega | (simp; omega)) | (simp; done) | (simp; omega)); have Bx := Lib.hid bx; obtain ⟨kx0, kx1, fx0, fx1, lx⟩ := blk2 bx; clear bx; have HB := Lib.hid hw; clear hw hb
    go_wp2_with (first | (rw [hsh]) | fail)
  · obtain ⟨rfl, rfl⟩ := KT.out hc
    refine (GR.out _).mono ?_
    rintro e w4 ⟨rfl, rfl⟩
    go_wp2_with fail
    go_ret2
    exact ⟨rfl, (by have hb := HB.out; repeat' (first | (with_reducible exact Below.refl _ _) | (with_reducible assumption) | (with_reducible refine below_drewN ?_ _) | (with_reducible refine Below.drew ?_) | (with_reducible refine bl_alloc ?_ _) | (with_reducible refine bl_set ?_ ?_ _) | go_size | omega))⟩
  · obtain ⟨rfl, rfl⟩ := KL.out hc
    go_ret2
    exact ⟨rfl, (by have hb := HB.out; repeat' (first | (with_reducible exact Below.refl _ _) | (with_reducible assumption) | (with_reducible refine below_drewN ?_ _) | (with_reducible refine Below.drew ?_) | (with_reducible refine bl_alloc ?_ _) | (with_reducible refine bl_set ?_ ?_ _) | go_size | omega))⟩
  · obtain ⟨rfl, rfl⟩ := KM.out hc hc2
    have HX : Hid (InX w p q _) := Lib.hid ⟨HB.out, Bx.out⟩
    refine wp_region_quietC (C := InX w p q) (by kernel_rfl) (by kernel_rfl) HX.out.drew ?_
    repeat
      (refine wpQuiet_step (fun K hK => ?_)
       go_simp
       first
         | (refine hK _ ?_; clear hK K)
         | (apply Exists.intro
            refine ⟨fun w' hw' => ?_, hK _ ?_⟩
            first
              | (go_at_call 87; with_reducible refine Calls.mono (RS.out _ hc hc2) ?_; rintro e w2 ⟨rfl, rfl⟩; exact ⟨rfl, hw'⟩)
              | (go_at_call 82; with_reducible refine Calls.mono (cut_impl p q _ _ h1 h2 h3 h4) ?_; rintro e w2 ⟨rfl, hb2⟩; exact ⟨rfl, hw'.below hb2⟩)
              | (obtain ⟨c0, c1, -, -, lz⟩ := blk2 hw'.f; go_simp; rfl)
            clear hK K))
    refine wpQuiet_nil ?_
    intro w2 hw2
    go_wp2_with fail
    go_ret2
    exact ⟨rfl, hw2.bel⟩
end Go.Proofs.YtidnnnjjpjadlaaGreatDoor

/- PowerStored of the reference, where the number fits. No condition: contract for the walks of the laws. -/
namespace Go.Proofs.YtidnnnjjpjadlaaGreatDoor
open Go.ChangeShapes Go.WideShapes Go.ChangeAt Go.RowKit

set_option maxRecDepth 100000 in
set_option maxHeartbeats 8000000 in
theorem pst_spec (p q n : Int) (w : World) (hf : fitB p q n = true) : Calls Tryz.prog 35 #[.agg #[.int .i64 p, .int .i64 q], .int .i64 n] w fun e w' => e = .returned (.tuple #[.int .i64 (pwN p q n), .bool (pwOk p q n)]) ∧ Below w.heap.size w w' := by
  have FA := Lib.hid (fun w' => fits_spec p q n w')
  rw [hf] at FA
  obtain ⟨⟨h1, h2, h3, h4⟩, n1, n2⟩ := fitB_bd hf
  obtain ⟨u1, u2⟩ := p2_bd16 h3 h4
  obtain ⟨v1, v2⟩ := p2_bd16 (k := 16 - q) (by omega) (by omega)
  obtain ⟨g1, g2⟩ := pw_bd h1 h2 h3 h4
  have hq := ediv_abs (a := n) (b := 2 ^ q.toNat) (M := 268435456) u1 n1 n2 (by omega)
  obtain ⟨hx0, hx1, hrest⟩ := pw_rest n h3 h4
  obtain ⟨tl1, tl2⟩ := tpL_le (n % 2 ^ q.toNat * 2 ^ (16 - q).toNat) 16
  have tl3 := tpH_le (n % 2 ^ q.toNat * 2 ^ (16 - q).toNat) (k := 16) (Nat.le_refl _)
  have hm1 := mul_absI (x := n / 2 ^ q.toNat) (y := 2 ^ q.toNat) (N := 268435456) (M := 65536) hq.1 hq.2 (by omega) u2 (by omega) (by omega)
  have hr1 := emod_bd' n (m := 2 ^ q.toNat) (by omega)
  have hw1 : IntKind.i64.wrap (2 ^ q.toNat) = 2 ^ q.toNat := by rw [IntKind.wrap_i64]; omega
  have hFS := Lib.hid (fun w' => l1floor_any n (2 ^ q.toNat) w' (by omega) (by omega) (by omega) (by omega))
  have TP := Lib.hid (fun w' => tpow_spec (n % 2 ^ q.toNat * 2 ^ (16 - q).toNat) w' hx0 hx1)
  have GR := Lib.hid (fun w' => fm_most p q w' h1 h2 h3 h4)
  have KF := fun (a b : Int) (w' : World) => (show (Instr.field 85 (.agg #[.int .i64 a, .int .i64 b]) 0).run Tryz.prog w' = .ok (.int .i64 a) w' by kernel_rfl)
  have HB := Lib.hid (Below.refl w.heap.size w)
  have Bx := Lib.hid (Blk.new w 24 #[.int .i64 p, .int .i64 q])
  have BIG := Lib.hid (fun h => pw_big (p := p) (q := q) (n := n) h1 h2 h3 h4 h)
  obtain ⟨W, hW⟩ : ∃ W, n / 2 ^ q.toNat = W := ⟨_, rfl⟩
  have KT : Hid (28 - q - W ≤ 0 → pwN p q n = pw p q - 1 ∧ pwOk p q n = false) := Lib.hid (fun h => pw_top (by omega))
  have KL : Hid (60 < 28 - q - W → pwN p q n = 0 ∧ pwOk p q n = true) := Lib.hid (fun h => pw_low (by omega))
  have KM : Hid (0 < 28 - q - W → 28 - q - W ≤ 60 → pwN p q n = cutV p q (rnd (tpL (n % 2 ^ q.toNat * 2 ^ (16 - q).toNat) 16) (2 ^ (28 - q - W).toNat)) ∧ pwOk p q n = (cutV p q (rnd (tpL (n % 2 ^ q.toNat * 2 ^ (16 - q).toNat) 16) (2 ^ (28 - q - W).toNat)) == rnd (tpL (n % 2 ^ q.toNat * 2 ^ (16 - q).toNat) 16) (2 ^ (28 - q - W).toNat))) := Lib.hid (fun ha hb => by
    rw [← hW]; exact pw_mid (by omega) (by omega))
  rw [hW] at BIG hFS hrest hm1 hq
  have CT := Lib.hid (fun v hv => cutV_top (p := p) (q := q) (v := v) h1 h2 h3 h4 hv)
  clear hf hW
  generalize hlo : tpL (n % 2 ^ q.toNat * 2 ^ (16 - q).toNat) 16 = lo at *
  generalize tpH (n % 2 ^ q.toNat * 2 ^ (16 - q).toNat) 16 = hi at *
  generalize pwN p q n = PN at *
  generalize pwOk p q n = PO at *
  have LR := Lib.hid (fun w' (ha : 0 < 28 - q - W) (hb : 28 - q - W ≤ 60) => l1round_any lo (2 ^ (28 - q - W).toNat) w' (by omega) (by omega) (p2_bd60 (by omega) hb).1 (p2_bd60 (by omega) hb).2)
  rcases (by omega : p + 1 ≤ W ∨ (W ≤ p ∧ W + q - 28 = 0) ∨ (W ≤ p ∧ W + q - 28 < -60) ∨ (W ≤ p ∧ W + q - 28 < 0 ∧ -60 ≤ W + q - 28)) with hc | ⟨hc, hc2⟩ | ⟨hc, hc2⟩ | ⟨hc, hc2, hc3⟩
  all_goals
    go_enter Tryz.func35, Tryz.ntmps35
    go_wp2_with fail
    refine (FA.out _).mono ?_
    rintro e w1 ⟨rfl, hb⟩
    have hw := bl_behind (w := w) hb (by have hb0 := HB.out; repeat (first | (with_reducible exact hb0) | (with_reducible refine below_drewN ?_ _) | (with_reducible refine Below.drew ?_) | (with_reducible refine bl_alloc ?_ _))); have bx := Blk.below (g := w.heap.size) (t := 24) (cs := #[.int .i64 p, .int .i64 q]) (by repeat (first | (with_reducible exact Bx.out) | (with_reducible exact Blk.new _ _ _) | (with_reducible refine Blk.drewN ?_ _) | (with_reducible refine Blk.drew ?_) | (with_reducible refine Blk.alloc ?_ _))) hb (by first | (have := Bx.out.lt; first | omega | (simp; omega)) | (simp; done) | (simp; omega)); have Bx := Lib.hid bx; obtain ⟨kx0, kx1, fx0, fx1, lx⟩ := blk2 bx; clear bx; have HB := Lib.hid hw; clear hw hb
    go_wp2_with fail
    refine (hFS.out _).mono ?_
    rintro e w2 ⟨rfl, rfl⟩
    go_wp2_with (first | (rw [hrest]) | fail)
    refine (TP.out _).mono ?_
    rintro e w3 ⟨rfl, hb⟩
    have hw := bl_behind (w := w) hb (by have hb0 := HB.out; repeat (first | (with_reducible exact hb0) | (with_reducible refine below_drewN ?_ _) | (with_reducible refine Below.drew ?_) | (with_reducible refine bl_alloc ?_ _))); have bx := Blk.below (g := w.heap.size) (t := 24) (cs := #[.int .i64 p, .int .i64 q]) (by repeat (first | (with_reducible exact Bx.out) | (with_reducible exact Blk.new _ _ _) | (with_reducible refine Blk.drewN ?_ _) | (with_reducible refine Blk.drew ?_) | (with_reducible refine Blk.alloc ?_ _))) hb (by first | (have := Bx.out.lt; first | omega | (simp; omega)) | (simp; done) | (simp; omega)); have Bx := Lib.hid bx; obtain ⟨kx0, kx1, fx0, fx1, lx⟩ := blk2 bx; clear bx; have HB := Lib.hid hw; clear hw hb
    go_wp2_with fail
  · obtain ⟨rfl, rfl⟩ := BIG.out hc
    refine (GR.out _).mono ?_
    rintro e w4 ⟨rfl, rfl⟩
    go_wp2_with fail
    go_ret2
    exact ⟨rfl, (by have hb := HB.out; repeat' (first | (with_reducible exact Below.refl _ _) | (with_reducible assumption) | (with_reducible refine below_drewN ?_ _) | (with_reducible refine Below.drew ?_) | (with_reducible refine bl_alloc ?_ _) | (with_reducible refine bl_set ?_ ?_ _) | go_size | omega))⟩
  · obtain ⟨rfl, rfl⟩ := KT.out (by omega)
    obtain ⟨e1, e2⟩ := CT.out lo (by omega)
    have hwl : IntKind.i64.wrap lo = lo := by rw [IntKind.wrap_i64]; omega
    have HX : Hid (InX w p q _) := Lib.hid ⟨HB.out, Bx.out⟩
    refine wp_region_quietC (C := InX w p q) (by kernel_rfl) (by kernel_rfl) HX.out.drew ?_
    repeat
      (refine wpQuiet_step (fun K hK => ?_)
       go_simp
       first
         | (refine hK _ ?_; clear hK K)
         | (apply Exists.intro
            refine ⟨fun w' hw' => ?_, hK _ ?_⟩
            first
              | (go_at_call 36; refine Calls.mono (cut_spec p q lo _ h1 h2 h3 h4) ?_; rintro e w2 ⟨rfl, hb2⟩; rw [e2, e1]; exact ⟨rfl, hw'.below hb2⟩)
              | (obtain ⟨c0, c1, -, -, lz⟩ := blk2 hw'.f; go_simp; rfl)
            clear hK K))
    refine wpQuiet_nil ?_
    intro w2 hw2
    go_wp2_with fail
    go_ret2
    exact ⟨rfl, hw2.bel⟩
  · obtain ⟨rfl, rfl⟩ := KL.out (by omega)
    go_ret2
    exact ⟨rfl, (by have hb := HB.out; repeat' (first | (with_reducible exact Below.refl _ _) | (with_reducible assumption) | (with_reducible refine below_drewN ?_ _) | (with_reducible refine Below.drew ?_) | (with_reducible refine bl_alloc ?_ _) | (with_reducible refine bl_set ?_ ?_ _) | go_size | omega))⟩
  · obtain ⟨rfl, rfl⟩ := KM.out (by omega) (by omega)
    have hng : -(W + q - 28) = 28 - q - W := by omega
    obtain ⟨z1, z2⟩ := p2_bd60 (k := 28 - q - W) (by omega) (by omega)
    have hwg : IntKind.i64.wrap (28 - q - W) = 28 - q - W := by rw [IntKind.wrap_i64]; omega
    have hws : IntKind.i64.wrap (2 ^ (28 - q - W).toNat) = 2 ^ (28 - q - W).toNat := by rw [IntKind.wrap_i64]; omega
    have HX : Hid (InX w p q _) := Lib.hid ⟨HB.out, Bx.out⟩
    refine wp_region_quietC (C := InX w p q) (by kernel_rfl) (by kernel_rfl) HX.out.drew ?_
    repeat
      (refine wpQuiet_step (fun K hK => ?_)
       go_simp
       first
         | (refine hK _ ?_; clear hK K)
         | (apply Exists.intro
            refine ⟨fun w' hw' => ?_, hK _ ?_⟩
            first
              | (go_at_call 67; refine Calls.mono (LR.out _ (by omega) (by omega)) ?_; rintro e w2 ⟨rfl, rfl⟩; exact ⟨rfl, hw'⟩)
              | (go_at_call 36; with_reducible refine Calls.mono (cut_spec p q _ _ h1 h2 h3 h4) ?_; rintro e w2 ⟨rfl, hb2⟩; exact ⟨rfl, hw'.below hb2⟩)
              | (obtain ⟨c0, c1, -, -, lz⟩ := blk2 hw'.f; go_simp; rfl)
            clear hK K))
    refine wpQuiet_nil ?_
    intro w2 hw2
    go_wp2_with fail
    go_ret2
    exact ⟨rfl, hw2.bel⟩
end Go.Proofs.YtidnnnjjpjadlaaGreatDoor
