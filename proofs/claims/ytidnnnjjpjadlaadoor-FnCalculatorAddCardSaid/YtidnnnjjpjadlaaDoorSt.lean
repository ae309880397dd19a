/- StoredText of the program and of the reference. No condition: contracts for the walks of the laws. -/
import Derived.Test.YtidnnnjjpjadlaaDoorBuf
import Derived.Test.YtidnnnjjpjadlaaDoorSpan
namespace Go.Proofs.YtidnnnjjpjadlaaDoor
open Go.ChangeShapes Go.WideShapes Go.ChangeAt Go.RowKit

theorem dec_d {d : Int} (h1 : 0 ≤ d) (h2 : d ≤ 9) : dec d = [UInt8.ofNat (48 + d).toNat] := by
  rw [dec_one h1 h2]
  congr 3
  omega
theorem q16_bd {q : Int} (h3 : 0 ≤ q) (h4 : q ≤ 16) : 1 ≤ (2 : Int) ^ q.toNat ∧ (2 : Int) ^ q.toNat ≤ 65536 := by
  have hk : q.toNat ≤ 16 := by omega
  generalize q.toNat = k at hk
  have e1 : (2 : Nat) ^ k ≤ 2 ^ 16 := Nat.pow_le_pow_right (by omega) (by omega)
  have e2 : ((2 ^ k : Nat) : Int) = (2 : Int) ^ k := by rw [Int.natCast_pow]; rfl
  have := two_pow_pos k
  omega
/-- The length of a text in a slot. -/
def txL (v : Value) : Nat := match v with | .string s => s.size | .slice _ n _ => n | _ => 0
/-- The text of a sign and a magnitude. -/
def sgT (sg : List UInt8) (q m : Int) : List UInt8 := sg ++ mText q m
theorem sgT_zero {sg : List UInt8} {q m : Int} (h : m % 2 ^ q.toNat = 0) : sgT sg q m = (sg ++ dec (m / 2 ^ q.toNat)) ++ gd q.toNat q.toNat (m % 2 ^ q.toNat) := by
  unfold sgT mText
  rw [if_pos h, h, gd_zero, List.append_assoc]
theorem sgT_some {sg : List UInt8} {q m : Int} (h : ¬ m % 2 ^ q.toNat = 0) : sgT sg q m = ((sg ++ dec (m / 2 ^ q.toNat)) ++ [46]) ++ gd q.toNat q.toNat (m % 2 ^ q.toNat) := by
  unfold sgT mText
  rw [if_neg h]
  simp
/-- What the rounds hold: what has been written, and what follows. -/
def TxRel (t : List UInt8) (q k : Nat) (r : Int) (l : List UInt8) : Prop := l ++ gd q k r = t ∧ GR q k r ∧ l.length + k ≤ 40
theorem tx_step {t l : List UInt8} {q k : Nat} {r : Int} (h : TxRel t q k r l) (hr : 0 < r) : ∃ j, k = j + 1 ∧ (0 ≤ r * 10 / 2 ^ q ∧ r * 10 / 2 ^ q ≤ 9) ∧ TxRel t q j (r * 10 % 2 ^ q) (l ++ [UInt8.ofNat (48 + r * 10 / 2 ^ q).toNat]) := by
  obtain ⟨h1, h2, h3⟩ := h
  cases k with
  | zero => have := gr_zero h2; omega
  | succ j =>
    obtain ⟨s1, s2, s3⟩ := gr_step h2
    refine ⟨j, rfl, ⟨s2, s3⟩, ?_, s1, by simp; omega⟩
    rw [← h1, gd, if_neg (by omega)]
    simp
theorem tx_end {t l : List UInt8} {q k : Nat} (h : TxRel t q k 0 l) : l = t := by
  have := h.1
  rw [gd_zero, List.append_nil] at this
  exact this
theorem tx_len {t l : List UInt8} {q k : Nat} {r : Int} (h : TxRel t q k r l) : l.length ≤ 40 := by have := h.2.2; omega
theorem tx_pos {t l : List UInt8} {q k : Nat} {r : Int} (h : TxRel t q k r l) : 0 ≤ r ∧ r < 2 ^ q := ⟨h.2.1.1, h.2.1.2.1⟩
/-- A stored number is a sign and a magnitude. -/
theorem fit_parts {p q n : Int} (h : fitB p q n = true) : (1 ≤ p ∧ p ≤ 12) ∧ (0 ≤ q ∧ q ≤ 16) ∧ ((0 ≤ n ∧ n ≤ 268435456 ∧ n / 2 ^ q.toNat ≤ 4096 ∧ sText p q n = sgT [] q n) ∨ (∃ m, n = -m ∧ 0 < m ∧ m ≤ 268435456 ∧ m / 2 ^ q.toNat ≤ 4096 ∧ sText p q (-m) = sgT [45] q m)) := by
  obtain ⟨⟨h1, h2, h3, h4⟩, h5, h6⟩ := fitB_mk h
  obtain ⟨k1, k2, -⟩ := fit_mag h
  have := pw_bd h1 h2 h3 h4
  refine ⟨⟨h1, h2⟩, ⟨h3, h4⟩, ?_⟩
  rcases (by omega : 0 ≤ n ∨ n < 0) with h0 | h0
  · exact .inl ⟨h0, by omega, k1 h0, by rw [sText_pos h h0]; rfl⟩
  · refine .inr ⟨-n, by omega, by omega, by omega, k2 h0, ?_⟩
    rw [Int.neg_neg, sText_neg h h0]; rfl
theorem str_app (a b : List UInt8) : sOf a ++ sOf b = sOf (a ++ b) := sOf_app a b
theorem tx_start {sg : List UInt8} {q m : Int} (hsg : sg.length ≤ 1) (hq : 0 ≤ q ∧ q ≤ 16) (hm : 0 ≤ m) (hd : m / 2 ^ q.toNat ≤ 4096) :
    (m % 2 ^ q.toNat = 0 → TxRel (sgT sg q m) q.toNat q.toNat (m % 2 ^ q.toNat) (sg ++ dec (m / 2 ^ q.toNat))) ∧ (¬ m % 2 ^ q.toNat = 0 → TxRel (sgT sg q m) q.toNat q.toNat (m % 2 ^ q.toNat) ((sg ++ dec (m / 2 ^ q.toNat)) ++ [46])) := by
  have hp := two_pow_pos q.toNat
  have hl := dec_len (n := m / 2 ^ q.toNat) (Int.ediv_nonneg hm (Int.le_of_lt hp)) (by omega)
  have hg := gr_start (q := q.toNat) (Int.emod_nonneg m (Int.ne_of_gt hp)) (Int.emod_lt_of_pos m hp)
  exact ⟨fun h => ⟨(sgT_zero h).symm, hg, by simp; omega⟩, fun h => ⟨(sgT_some h).symm, hg, by simp; omega⟩⟩
set_option maxRecDepth 100000 in
set_option maxHeartbeats 8000000 in
theorem st_impl (p q n : Int) (w : World) (hT : HT w) : Calls Tryd.prog 10 #[.agg #[.int .i64 p, .int .i64 q], .int .i64 n] w fun e w' => e = .returned (.string (sOf (sText p q n))) ∧ Below w.heap.size w w' := by
  obtain ⟨i0, hi, hz0, hz1, hz2⟩ := (info_parts (P := Tryd.prog) (e := 5) (z := .int .u8 0) (size := 1) (bytes := 1) (by kernel_rfl) : ∃ i, Tryd.prog.info? 5 = some i ∧ i.zero = some (.int .u8 0) ∧ i.size = 1 ∧ i.bytes = 1)
  have HTB := Lib.hid hT
  clear hT
  rcases hf : fitB p q n
  · have HE := Lib.hid (show (⟨#[]⟩ : ByteArray) = sOf (sText p q n) by rw [sText_out hf]; rfl)
    have hFS := Lib.hid (fun w' => fits_impl p q n w')
    rw [hf] at hFS
    clear hf
    go_enter Tryd.func10, Tryd.ntmps10
    go_wp2_with fail
    refine (hFS.out _).mono ?_
    rintro e w1 ⟨rfl, hb⟩
    (repeat (replace hb := unalloc hb))
    go_wp2_with fail
    go_ret
    exact ⟨ret_str HE.out, (by repeat' (first | (with_reducible exact Below.refl _ _) | (with_reducible assumption) | (with_reducible refine below_drewN ?_ _) | (with_reducible refine Below.drew ?_) | (with_reducible refine bl_alloc ?_ _) | (with_reducible refine bl_set ?_ ?_ _) | go_size | omega))⟩
  · obtain ⟨⟨h1, h2⟩, ⟨h3, h4⟩, hn⟩ := fit_parts hf
    have hFS := Lib.hid (fun w' => fits_impl p q n w')
    rw [hf] at hFS
    obtain ⟨b1, b2⟩ := q16_bd h3 h4
    have hw1 : wrap64 (2 ^ q.toNat) = 2 ^ q.toNat := wr64 (by omega) (by omega)
    clear hf
    rcases hn with ⟨m0, m1, m2, HT⟩ | ⟨m, rfl, m0, m1, m2, HT⟩
    · have HE := Lib.hid (congrArg sOf HT)
      obtain ⟨t1, t2⟩ := tx_start (sg := []) (q := q) (m := n) (by simp) ⟨h3, h4⟩ (by omega) m2
      have hd0 := Int.ediv_nonneg (show 0 ≤ n by omega) (Int.le_of_lt (two_pow_pos q.toNat))
      have r0 := Int.emod_nonneg n (Int.ne_of_gt (two_pow_pos q.toNat))
      have r1 := Int.emod_lt_of_pos n (two_pow_pos q.toNat)
      have zd := dec_len hd0 (by omega)
      have e0 : (⟨#[]⟩ : ByteArray) ++ sOf (dec (n / 2 ^ q.toNat)) = sOf ([] ++ dec (n / 2 ^ q.toNat)) := by rw [show (⟨#[]⟩ : ByteArray) = sOf [] from rfl, str_app]
      have z0 : (sOf ([] ++ dec (n / 2 ^ q.toNat))).size ≤ 5 := by rw [sOf_size, List.length_append]; simp; omega
      have z0' : (⟨#[]⟩ ++ sOf (dec (n / 2 ^ q.toNat)) : ByteArray).size ≤ 5 := by rw [e0]; exact z0
      have e1 : sOf ([] ++ dec (n / 2 ^ q.toNat)) ++ ⟨#[46]⟩ = sOf (([] ++ dec (n / 2 ^ q.toNat)) ++ [46]) := by rw [show (⟨#[46]⟩ : ByteArray) = sOf [46] from rfl, str_app]
      have z1 : (sOf (([] ++ dec (n / 2 ^ q.toNat)) ++ [46])).size ≤ 6 := by rw [sOf_size, List.length_append] at *; simp; omega
      have z1' : (sOf ([] ++ dec (n / 2 ^ q.toNat)) ++ ⟨#[46]⟩ : ByteArray).size ≤ 6 := by rw [e1]; exact z1
      have zD : (sOf (dec (n / 2 ^ q.toNat))).size ≤ 4 := by rw [sOf_size]; exact zd
      clear HT zd
      generalize hL1 : ([] ++ dec (n / 2 ^ q.toNat)) ++ [46] = L1 at *
      generalize [] ++ dec (n / 2 ^ q.toNat) = L0 at *
      have HL1 := Lib.hid hL1
      clear hL1
      generalize sgT [] q n = TT at *
      have NS := Lib.hid (fun w' hT => itoa_big (n / 2 ^ q.toNat) w' hT hd0 (by omega))
      have T1 := Lib.hid t1
      have T2 := Lib.hid t2
      clear t1 t2
      have ZL0 := Lib.hid (sOf_size L0)
      have LL1 := Lib.hid (show L1.length ≤ 6 by rw [← sOf_size]; exact z1)
      go_enter Tryd.func10, Tryd.ntmps10
      go_wp2_with fail
      refine (hFS.out _).mono ?_
      rintro e w1 ⟨rfl, hb⟩
      have bx := (Blk.new w 24 #[.int .i64 p, .int .i64 q]).below hb (by simp)
      obtain ⟨k0, k1, -, -, l0⟩ := blk2 bx
      have BX := Lib.hid bx
      (repeat (replace hb := unalloc hb))
      have HB := Lib.hid hb
      clear hb bx
      go_wp2_with fail
      refine (NS.out _ (HTB.out.below HB.out)).mono ?_
      rintro e w2 ⟨rfl, hb⟩
      have hbl := bl_behind (w := w) hb HB.out
      have HB2 := Lib.hid hbl
      have bx := BX.out.below hb BX.out.lt
      clear k0 k1 l0
      obtain ⟨k0, k1, -, -, l2⟩ := blk2 bx
      have kc := Lib.run_convert_string_bytes (P := Tryd.prog) w2 9 22 5 (sOf L0) Tryd.underlying9 Tryd.underlying22 Tryd.underlying5
      have kq : (Lib.bytesWorld w2 5 (sOf L0)).cell? ⟨w.heap.size, 1, none⟩ = some (.int .i64 q) := by rw [Lib.bytesWorld_old w2 5 (sOf L0) ⟨w.heap.size, 1, none⟩ l2]; exact k1
      have BUF := Lib.hid (buf_conv w2 (sOf L0) (by omega))
      have BLW := Lib.hid (below_bytes w2 5 (sOf L0))
      have hm3 := and_mask (n := n) (k := q.toNat) (by omega)
      clear hb hbl bx
      by_cases hr0 : n % 2 ^ q.toNat = 0
      · have TX := Lib.hid (T1.out hr0)
        have hr1 : n % 2 ^ q.toNat ≤ 0 := by omega
        clear hr0
        go_wp2_with fail
        go_loopw [6, 8] (fun v rs wr => ∃ (k : Nat) (r : Int) (L : List UInt8), rs = .int .i64 r ∧ Buf w2.heap.size wr v L ∧ Below w2.heap.size w2 wr ∧ Hid (TxRel TT q.toNat k r L)) (fun v _ _ => 100 - txL v)
        case atStart => exact ⟨q.toNat, _, _, rfl, BUF.out, BLW.out, TX⟩
        case round =>
          obtain ⟨k, r, L, rfl, hbuf, hblw, HX⟩ := hrel
          have BUF := Lib.hid hbuf
          have BLW := Lib.hid hblw
          have kr1 := (hblw.cell (p := ⟨w.heap.size, 1, none⟩) l2).trans k1
          have lr := hblw.size
          have kcs := buf_string hbuf 22 9 5 Tryd.underlying22 Tryd.underlying5 Tryd.underlying9 (P := Tryd.prog)
          obtain ⟨g, cap, rfl, hg1, hg2, hg3, -, -⟩ := hbuf
          clear hblw
          have hp := tx_pos HX.out
          have zl := tx_len HX.out
          rcases (by omega : r = 0 ∨ 0 < r) with rfl | hr
          · have HE2 := Lib.hid (tx_end HX.out)
            go_wp2_with fail
            go_ret
            have hb := bl_behind (w := w) BLW.out HB2.out
            exact ⟨ret_str (by rw [HE.out, HE2.out]), (by repeat' (first | (with_reducible exact Below.refl _ _) | (with_reducible assumption) | (with_reducible refine below_drewN ?_ _) | (with_reducible refine Below.drew ?_) | (with_reducible refine bl_alloc ?_ _) | (with_reducible refine bl_set ?_ ?_ _) | go_size | omega))⟩
          · obtain ⟨j, rfl, ⟨d0, d1⟩, HX2⟩ := tx_step HX.out hr
            have HX2 := Lib.hid HX2
            have g0 := Int.emod_nonneg (r * 10) (Int.ne_of_gt (two_pow_pos q.toNat))
            have hm2 := and_mask (n := r * 10) (k := q.toNat) (by omega)
            clear kcs
            go_wp2_with ((at_builtin; go_loud (refine wpList_append_buf (W := w2) rfl _ _ 22 5 rfl i0 Tryd.underlying22 hi hz0 hz1 hz2 _ _ (by rfl) _ (by omega) (by omega) BUF.out BLW.out (by omega) (by rfl) ?_)))
            intro v' w' hbuf' hblw'
            obtain ⟨g', cap', rfl, -⟩ := id hbuf'
            have BUF2 := Lib.hid hbuf'
            have BLW2 := Lib.hid hblw'
            clear hbuf' hblw' kr1 lr
            go_wp2_with fail
            go_roundw
            case rel => exact ⟨j, _, _, rfl, BUF2.out, BLW2.out, HX2⟩
            case measure => show 100 - (L ++ [UInt8.ofNat (48 + r * 10 / 2 ^ q.toNat).toNat]).length < 100 - L.length; rw [List.length_append]; simp; omega
      · have TX := Lib.hid (T2.out hr0)
        have hr1 : 0 < n % 2 ^ q.toNat := by omega
        go_wp2_with ((at_builtin; go_loud (refine wpList_append_buf (W := w2) rfl _ _ 22 5 rfl i0 Tryd.underlying22 hi hz0 hz1 hz2 _ _ (by rfl) _ (by omega) (by omega) BUF.out BLW.out (by have e : (sOf L0).data.toList.length = (sOf L0).size := (by simp); omega) (by rfl) ?_)))
        intro v' w' hbuf' hblw'
        have BUF := Lib.hid (show Buf w2.heap.size w' v' L1 by rw [← HL1.out]; exact hbuf')
        have BLW := Lib.hid hblw'
        clear hbuf' hblw'
        go_wp2_with fail
        go_loopw [6, 8] (fun v rs wr => ∃ (k : Nat) (r : Int) (L : List UInt8), rs = .int .i64 r ∧ Buf w2.heap.size wr v L ∧ Below w2.heap.size w2 wr ∧ Hid (TxRel TT q.toNat k r L)) (fun v _ _ => 100 - txL v)
        case atStart => exact ⟨q.toNat, _, _, rfl, BUF.out, BLW.out, TX⟩
        case round =>
          obtain ⟨k, r, L, rfl, hbuf, hblw, HX⟩ := hrel
          have BUF := Lib.hid hbuf
          have BLW := Lib.hid hblw
          have kr1 := (hblw.cell (p := ⟨w.heap.size, 1, none⟩) l2).trans k1
          have lr := hblw.size
          have kcs := buf_string hbuf 22 9 5 Tryd.underlying22 Tryd.underlying5 Tryd.underlying9 (P := Tryd.prog)
          obtain ⟨g, cap, rfl, hg1, hg2, hg3, -, -⟩ := hbuf
          clear hblw
          have hp := tx_pos HX.out
          have zl := tx_len HX.out
          rcases (by omega : r = 0 ∨ 0 < r) with rfl | hr
          · have HE2 := Lib.hid (tx_end HX.out)
            go_wp2_with fail
            go_ret
            have hb := bl_behind (w := w) BLW.out HB2.out
            exact ⟨ret_str (by rw [HE.out, HE2.out]), (by repeat' (first | (with_reducible exact Below.refl _ _) | (with_reducible assumption) | (with_reducible refine below_drewN ?_ _) | (with_reducible refine Below.drew ?_) | (with_reducible refine bl_alloc ?_ _) | (with_reducible refine bl_set ?_ ?_ _) | go_size | omega))⟩
          · obtain ⟨j, rfl, ⟨d0, d1⟩, HX2⟩ := tx_step HX.out hr
            have HX2 := Lib.hid HX2
            have g0 := Int.emod_nonneg (r * 10) (Int.ne_of_gt (two_pow_pos q.toNat))
            have hm2 := and_mask (n := r * 10) (k := q.toNat) (by omega)
            clear kcs
            go_wp2_with ((at_builtin; go_loud (refine wpList_append_buf (W := w2) rfl _ _ 22 5 rfl i0 Tryd.underlying22 hi hz0 hz1 hz2 _ _ (by rfl) _ (by omega) (by omega) BUF.out BLW.out (by omega) (by rfl) ?_)))
            intro v' w' hbuf' hblw'
            obtain ⟨g', cap', rfl, -⟩ := id hbuf'
            have BUF2 := Lib.hid hbuf'
            have BLW2 := Lib.hid hblw'
            clear hbuf' hblw' kr1 lr
            go_wp2_with fail
            go_roundw
            case rel => exact ⟨j, _, _, rfl, BUF2.out, BLW2.out, HX2⟩
            case measure => show 100 - (L ++ [UInt8.ofNat (48 + r * 10 / 2 ^ q.toNat).toNat]).length < 100 - L.length; rw [List.length_append]; simp; omega
    · have HE := Lib.hid (congrArg sOf HT)
      obtain ⟨t1, t2⟩ := tx_start (sg := [45]) (q := q) (m := m) (by simp) ⟨h3, h4⟩ (by omega) m2
      have hd0 := Int.ediv_nonneg (show 0 ≤ m by omega) (Int.le_of_lt (two_pow_pos q.toNat))
      have r0 := Int.emod_nonneg m (Int.ne_of_gt (two_pow_pos q.toNat))
      have r1 := Int.emod_lt_of_pos m (two_pow_pos q.toNat)
      have zd := dec_len hd0 (by omega)
      have e0 : (⟨#[45]⟩ : ByteArray) ++ sOf (dec (m / 2 ^ q.toNat)) = sOf ([45] ++ dec (m / 2 ^ q.toNat)) := by rw [show (⟨#[45]⟩ : ByteArray) = sOf [45] from rfl, str_app]
      have z0 : (sOf ([45] ++ dec (m / 2 ^ q.toNat))).size ≤ 5 := by rw [sOf_size, List.length_append]; simp; omega
      have z0' : (⟨#[45]⟩ ++ sOf (dec (m / 2 ^ q.toNat)) : ByteArray).size ≤ 5 := by rw [e0]; exact z0
      have e1 : sOf ([45] ++ dec (m / 2 ^ q.toNat)) ++ ⟨#[46]⟩ = sOf (([45] ++ dec (m / 2 ^ q.toNat)) ++ [46]) := by rw [show (⟨#[46]⟩ : ByteArray) = sOf [46] from rfl, str_app]
      have z1 : (sOf (([45] ++ dec (m / 2 ^ q.toNat)) ++ [46])).size ≤ 6 := by rw [sOf_size, List.length_append] at *; simp; omega
      have z1' : (sOf ([45] ++ dec (m / 2 ^ q.toNat)) ++ ⟨#[46]⟩ : ByteArray).size ≤ 6 := by rw [e1]; exact z1
      have zD : (sOf (dec (m / 2 ^ q.toNat))).size ≤ 4 := by rw [sOf_size]; exact zd
      clear HT zd
      generalize hL1 : ([45] ++ dec (m / 2 ^ q.toNat)) ++ [46] = L1 at *
      generalize [45] ++ dec (m / 2 ^ q.toNat) = L0 at *
      have HL1 := Lib.hid hL1
      clear hL1
      generalize sgT [45] q m = TT at *
      have NS := Lib.hid (fun w' hT => itoa_big (m / 2 ^ q.toNat) w' hT hd0 (by omega))
      have T1 := Lib.hid t1
      have T2 := Lib.hid t2
      clear t1 t2
      have ZL0 := Lib.hid (sOf_size L0)
      have LL1 := Lib.hid (show L1.length ≤ 6 by rw [← sOf_size]; exact z1)
      go_enter Tryd.func10, Tryd.ntmps10
      go_wp2_with fail
      refine (hFS.out _).mono ?_
      rintro e w1 ⟨rfl, hb⟩
      have bx := (Blk.new w 24 #[.int .i64 p, .int .i64 q]).below hb (by simp)
      obtain ⟨k0, k1, -, -, l0⟩ := blk2 bx
      have BX := Lib.hid bx
      (repeat (replace hb := unalloc hb))
      have HB := Lib.hid hb
      clear hb bx
      go_wp2_with fail
      refine (NS.out _ (HTB.out.below HB.out)).mono ?_
      rintro e w2 ⟨rfl, hb⟩
      have hbl := bl_behind (w := w) hb HB.out
      have HB2 := Lib.hid hbl
      have bx := BX.out.below hb BX.out.lt
      clear k0 k1 l0
      obtain ⟨k0, k1, -, -, l2⟩ := blk2 bx
      have kc := Lib.run_convert_string_bytes (P := Tryd.prog) w2 9 22 5 (sOf L0) Tryd.underlying9 Tryd.underlying22 Tryd.underlying5
      have kq : (Lib.bytesWorld w2 5 (sOf L0)).cell? ⟨w.heap.size, 1, none⟩ = some (.int .i64 q) := by rw [Lib.bytesWorld_old w2 5 (sOf L0) ⟨w.heap.size, 1, none⟩ l2]; exact k1
      have BUF := Lib.hid (buf_conv w2 (sOf L0) (by omega))
      have BLW := Lib.hid (below_bytes w2 5 (sOf L0))
      have hm3 := and_mask (n := m) (k := q.toNat) (by omega)
      clear hb hbl bx
      by_cases hr0 : m % 2 ^ q.toNat = 0
      · have TX := Lib.hid (T1.out hr0)
        have hr1 : m % 2 ^ q.toNat ≤ 0 := by omega
        clear hr0
        go_wp2_with fail
        go_loopw [6, 8] (fun v rs wr => ∃ (k : Nat) (r : Int) (L : List UInt8), rs = .int .i64 r ∧ Buf w2.heap.size wr v L ∧ Below w2.heap.size w2 wr ∧ Hid (TxRel TT q.toNat k r L)) (fun v _ _ => 100 - txL v)
        case atStart => exact ⟨q.toNat, _, _, rfl, BUF.out, BLW.out, TX⟩
        case round =>
          obtain ⟨k, r, L, rfl, hbuf, hblw, HX⟩ := hrel
          have BUF := Lib.hid hbuf
          have BLW := Lib.hid hblw
          have kr1 := (hblw.cell (p := ⟨w.heap.size, 1, none⟩) l2).trans k1
          have lr := hblw.size
          have kcs := buf_string hbuf 22 9 5 Tryd.underlying22 Tryd.underlying5 Tryd.underlying9 (P := Tryd.prog)
          obtain ⟨g, cap, rfl, hg1, hg2, hg3, -, -⟩ := hbuf
          clear hblw
          have hp := tx_pos HX.out
          have zl := tx_len HX.out
          rcases (by omega : r = 0 ∨ 0 < r) with rfl | hr
          · have HE2 := Lib.hid (tx_end HX.out)
            go_wp2_with fail
            go_ret
            have hb := bl_behind (w := w) BLW.out HB2.out
            exact ⟨ret_str (by rw [HE.out, HE2.out]), (by repeat' (first | (with_reducible exact Below.refl _ _) | (with_reducible assumption) | (with_reducible refine below_drewN ?_ _) | (with_reducible refine Below.drew ?_) | (with_reducible refine bl_alloc ?_ _) | (with_reducible refine bl_set ?_ ?_ _) | go_size | omega))⟩
          · obtain ⟨j, rfl, ⟨d0, d1⟩, HX2⟩ := tx_step HX.out hr
            have HX2 := Lib.hid HX2
            have g0 := Int.emod_nonneg (r * 10) (Int.ne_of_gt (two_pow_pos q.toNat))
            have hm2 := and_mask (n := r * 10) (k := q.toNat) (by omega)
            clear kcs
            go_wp2_with ((at_builtin; go_loud (refine wpList_append_buf (W := w2) rfl _ _ 22 5 rfl i0 Tryd.underlying22 hi hz0 hz1 hz2 _ _ (by rfl) _ (by omega) (by omega) BUF.out BLW.out (by omega) (by rfl) ?_)))
            intro v' w' hbuf' hblw'
            obtain ⟨g', cap', rfl, -⟩ := id hbuf'
            have BUF2 := Lib.hid hbuf'
            have BLW2 := Lib.hid hblw'
            clear hbuf' hblw' kr1 lr
            go_wp2_with fail
            go_roundw
            case rel => exact ⟨j, _, _, rfl, BUF2.out, BLW2.out, HX2⟩
            case measure => show 100 - (L ++ [UInt8.ofNat (48 + r * 10 / 2 ^ q.toNat).toNat]).length < 100 - L.length; rw [List.length_append]; simp; omega
      · have TX := Lib.hid (T2.out hr0)
        have hr1 : 0 < m % 2 ^ q.toNat := by omega
        go_wp2_with ((at_builtin; go_loud (refine wpList_append_buf (W := w2) rfl _ _ 22 5 rfl i0 Tryd.underlying22 hi hz0 hz1 hz2 _ _ (by rfl) _ (by omega) (by omega) BUF.out BLW.out (by have e : (sOf L0).data.toList.length = (sOf L0).size := (by simp); omega) (by rfl) ?_)))
        intro v' w' hbuf' hblw'
        have BUF := Lib.hid (show Buf w2.heap.size w' v' L1 by rw [← HL1.out]; exact hbuf')
        have BLW := Lib.hid hblw'
        clear hbuf' hblw'
        go_wp2_with fail
        go_loopw [6, 8] (fun v rs wr => ∃ (k : Nat) (r : Int) (L : List UInt8), rs = .int .i64 r ∧ Buf w2.heap.size wr v L ∧ Below w2.heap.size w2 wr ∧ Hid (TxRel TT q.toNat k r L)) (fun v _ _ => 100 - txL v)
        case atStart => exact ⟨q.toNat, _, _, rfl, BUF.out, BLW.out, TX⟩
        case round =>
          obtain ⟨k, r, L, rfl, hbuf, hblw, HX⟩ := hrel
          have BUF := Lib.hid hbuf
          have BLW := Lib.hid hblw
          have kr1 := (hblw.cell (p := ⟨w.heap.size, 1, none⟩) l2).trans k1
          have lr := hblw.size
          have kcs := buf_string hbuf 22 9 5 Tryd.underlying22 Tryd.underlying5 Tryd.underlying9 (P := Tryd.prog)
          obtain ⟨g, cap, rfl, hg1, hg2, hg3, -, -⟩ := hbuf
          clear hblw
          have hp := tx_pos HX.out
          have zl := tx_len HX.out
          rcases (by omega : r = 0 ∨ 0 < r) with rfl | hr
          · have HE2 := Lib.hid (tx_end HX.out)
            go_wp2_with fail
            go_ret
            have hb := bl_behind (w := w) BLW.out HB2.out
            exact ⟨ret_str (by rw [HE.out, HE2.out]), (by repeat' (first | (with_reducible exact Below.refl _ _) | (with_reducible assumption) | (with_reducible refine below_drewN ?_ _) | (with_reducible refine Below.drew ?_) | (with_reducible refine bl_alloc ?_ _) | (with_reducible refine bl_set ?_ ?_ _) | go_size | omega))⟩
          · obtain ⟨j, rfl, ⟨d0, d1⟩, HX2⟩ := tx_step HX.out hr
            have HX2 := Lib.hid HX2
            have g0 := Int.emod_nonneg (r * 10) (Int.ne_of_gt (two_pow_pos q.toNat))
            have hm2 := and_mask (n := r * 10) (k := q.toNat) (by omega)
            clear kcs
            go_wp2_with ((at_builtin; go_loud (refine wpList_append_buf (W := w2) rfl _ _ 22 5 rfl i0 Tryd.underlying22 hi hz0 hz1 hz2 _ _ (by rfl) _ (by omega) (by omega) BUF.out BLW.out (by omega) (by rfl) ?_)))
            intro v' w' hbuf' hblw'
            obtain ⟨g', cap', rfl, -⟩ := id hbuf'
            have BUF2 := Lib.hid hbuf'
            have BLW2 := Lib.hid hblw'
            clear hbuf' hblw' kr1 lr
            go_wp2_with fail
            go_roundw
            case rel => exact ⟨j, _, _, rfl, BUF2.out, BLW2.out, HX2⟩
            case measure => show 100 - (L ++ [UInt8.ofNat (48 + r * 10 / 2 ^ q.toNat).toNat]).length < 100 - L.length; rw [List.length_append]; simp; omega
end Go.Proofs.YtidnnnjjpjadlaaDoor
