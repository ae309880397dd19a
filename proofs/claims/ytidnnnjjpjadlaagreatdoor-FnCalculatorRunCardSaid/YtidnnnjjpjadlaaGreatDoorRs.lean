/- ReadStored of the program. No condition: contracts for the walks of the laws. -/
import Derived.Test.YtidnnnjjpjadlaaGreatDoorSt
import Derived.Laws.RangeAny
namespace Go.Proofs.YtidnnnjjpjadlaaGreatDoor
open Go.ChangeShapes Go.WideShapes Go.ChangeAt Go.RowKit

/-- What is behind a minus sign, and whether there is one. -/
def cpD (s : ByteArray) : List UInt8 := Lib.trimPrefix s.data.toList [45]
def cpN (s : ByteArray) : Bool := Lib.hasPrefix s.data.toList [45]
theorem cutp (s : ByteArray) (w : World) : Calls Tryz.prog 88 #[.string s, .string ⟨#[45]⟩] w fun e w' => e = .returned (.tuple #[.string (sOf (cpD s)), .bool (cpN s)]) ∧ w = w' :=
  (Tryz.strings_CutPrefix s ⟨#[45]⟩ w).mono fun _ _ ⟨h1, h2⟩ => ⟨h1, h2.symm⟩
theorem cp_pos {s : ByteArray} {b : UInt8} {l : List UInt8} (h : s.data.toList = b :: l) (hb : b ≠ 45) : cpD s = b :: l ∧ cpN s = false := by
  have e : Lib.hasPrefix s.data.toList [45] = false := by
    rw [h]; unfold Lib.hasPrefix; simp [List.isPrefixOf]; exact fun e => hb e.symm
  unfold cpD cpN Lib.trimPrefix
  rw [e, h]
  exact ⟨rfl, rfl⟩
theorem cp_neg {s : ByteArray} {l : List UInt8} (h : s.data.toList = 45 :: l) : cpD s = l ∧ cpN s = true := by
  have e : Lib.hasPrefix s.data.toList [45] = true := by rw [h]; unfold Lib.hasPrefix; simp [List.isPrefixOf]
  unfold cpD cpN Lib.trimPrefix
  rw [e, h]
  exact ⟨rfl, rfl⟩
theorem cp_len (s : ByteArray) : (cpD s).length ≤ s.size := by
  have : s.data.toList.length = s.size := by simp
  unfold cpD Lib.trimPrefix
  split
  · rw [List.length_drop]; omega
  · omega
theorem rdN_ok : ∀ {l : List UInt8} {x : Int}, (rdN l x).2 = true → ∀ b ∈ l, isDig b
  | [], _, _ => by simp
  | a :: l, x, h => by
    rw [rdN] at h
    by_cases hc : a.toNat < 48 ∨ 57 < a.toNat
    · rw [if_pos hc] at h; simp at h
    · rw [if_neg hc] at h
      intro b hb
      rcases List.mem_cons.1 hb with hb | hb
      · rw [hb]; unfold isDig; omega
      · exact rdN_ok h b hb
theorem ten_pos (k : Nat) : (0 : Int) < 10 ^ k := Int.pow_pos (by omega)
theorem rdN_lt : ∀ {l : List UInt8} {x y : Int}, 0 ≤ x → x + 1 ≤ y → 0 ≤ (rdN l x).1 ∧ (rdN l x).1 + 1 ≤ y * 10 ^ l.length
  | [], x, y, h0, h => by simp [rdN]; omega
  | a :: l, x, y, h0, h => by
    have ha := a.toNat_lt
    have e : y * 10 ^ (a :: l).length = (10 * y) * 10 ^ l.length := by
      rw [show (a :: l).length = l.length + 1 from rfl, Int.pow_succ, Int.mul_comm (10 ^ l.length), ← Int.mul_assoc, Int.mul_comm y 10]
    rw [rdN, e]
    by_cases hc : a.toNat < 48 ∨ 57 < a.toNat
    · rw [if_pos hc]
      have := Int.mul_le_mul_of_nonneg_left (show (1 : Int) ≤ 10 ^ l.length by have := ten_pos l.length; omega) (show 0 ≤ 10 * y by omega)
      exact ⟨by simp, by simp; omega⟩
    · rw [if_neg hc]
      exact rdN_lt (by omega) (by omega)
theorem rd_bd {l : List UInt8} {n : Int} {b : Bool} (h : rdN l 0 = (n, b)) : 0 ≤ n ∧ n + 1 ≤ 10 ^ l.length := by
  have := rdN_lt (l := l) (x := 0) (y := 1) (by omega) (by omega)
  rw [h, Int.one_mul] at this
  exact this
theorem dig_decode {l : List UInt8} {pos : Nat} (h : ∀ b ∈ l, isDig b) (hp : pos < (sOf l).size) : (Utf8.decode (sOf l) pos).2 = 1 := by
  have hl : pos < l.length := by rw [← sOf_size]; exact hp
  have e : (sOf l)[pos]'hp = l[pos] := rfl
  rw [decode_ascii (sOf l) pos hp (by
    rw [e]
    have := h l[pos] (List.getElem_mem hl)
    unfold isDig at this
    omega)]
theorem five_pow_bd {x lo : Int} {L : Nat} (h : x * 5 ^ L ≤ lo) (hl : lo + 1 ≤ 10 ^ L) : x < 2 ^ L := by
  have e10 : (10 : Int) ^ L = 5 ^ L * 2 ^ L := by rw [← Int.mul_pow]; rfl
  have hp : (0 : Int) < 5 ^ L := Int.pow_pos (by omega)
  rcases Int.lt_or_le x (2 ^ L) with h1 | h1
  · exact h1
  · have := Int.mul_le_mul_of_nonneg_right h1 (Int.le_of_lt hp)
    rw [Int.mul_comm (2 ^ L)] at this
    omega
theorem two_le {a b : Nat} (h : a ≤ b) : (2 : Int) ^ a ≤ 2 ^ b := by
  have e := Nat.pow_le_pow_right (show 0 < 2 by omega) h
  have e1 : ((2 ^ a : Nat) : Int) = (2 : Int) ^ a := by rw [Int.natCast_pow]; rfl
  have e2 : ((2 ^ b : Nat) : Int) = (2 : Int) ^ b := by rw [Int.natCast_pow]; rfl
  omega
theorem ten_le {a b : Nat} (h : a ≤ b) : (10 : Int) ^ a ≤ 10 ^ b := by
  have e := Nat.pow_le_pow_right (show 0 < 10 by omega) h
  have e1 : ((10 ^ a : Nat) : Int) = (10 : Int) ^ a := by rw [Int.natCast_pow]; rfl
  have e2 : ((10 ^ b : Nat) : Int) = (10 : Int) ^ b := by rw [Int.natCast_pow]; rfl
  omega

set_option maxRecDepth 100000 in
set_option maxHeartbeats 8000000 in
theorem rs_bad (p q : Int) (s : ByteArray) (m : Int) (w : World) (hT : HT w) (hs : s.size ≤ 2000000) (hm : w.cell? ⟨0, 0, none⟩ = some (.int .i64 m)) (hg : ¬ rsGood p q s) : Calls Tryz.prog 58 #[.agg #[.int .i64 p, .int .i64 q], .string s] w fun e w' => e = .returned (.tuple #[.int .i64 0, .bool false]) ∧ Below w.heap.size w w' := by
  have HTB := Lib.hid hT
  have HM := Lib.hid hm
  have HB := Lib.hid (Below.refl w.heap.size w)
  have Bx := Lib.hid (Blk.new w 24 #[.int .i64 p, .int .i64 q])
  have HG := Lib.hid (fun n (hf : fitB p q n = true) (h : sOf (sText p q n) = s) => hg ⟨n, hf, h⟩)
  clear hT hm hg
  rcases hv0 : fmtB p q
  · have hv := Lib.hid hv0
    clear hv0
    go_enter Tryz.func58, Tryz.ntmps58
    go_wp2_with (first | (go_at_call 75; refine (fmvb_impl hv.out _).mono ?_; rintro e w' ⟨rfl, mm, rfl⟩))
    go_ret2
    have hb := HB.out
    exact ⟨rfl, (by repeat' (first | (with_reducible exact Below.refl _ _) | (with_reducible assumption) | (with_reducible refine below_drewN ?_ _) | (with_reducible refine Below.drew ?_) | (with_reducible refine bl_alloc ?_ _) | (with_reducible refine bl_set ?_ ?_ _) | go_size | omega))⟩
  · obtain ⟨h1, h2, h3, h4⟩ := fmtB_mk hv0
    have hv := Lib.hid hv0
    clear hv0
    have hD := cp_len s
    have zD := sOf_size (cpD s)
    have zW := sOf_size (cutL (sOf (cpD s)))
    have zP := sOf_size (cutR (sOf (cpD s)))
    obtain ⟨b1, b2⟩ := q16_bd h3 h4
    go_enter Tryz.func58, Tryz.ntmps58
    go_wp2_with (first | (go_at_call 75; refine (fmvb_impl hv.out _).mono ?_; rintro e w' ⟨rfl, mm, rfl⟩))
    refine (cutp s _).mono ?_
    rintro e w' ⟨rfl, rfl⟩
    go_wp2_with fail
    refine (cut_dot (sOf (cpD s)) m _ (by omega) (cell0_below HM.out (by have hb0 := HB.out; repeat (first | (with_reducible exact hb0) | (with_reducible refine below_drewN ?_ _) | (with_reducible refine Below.drew ?_) | (with_reducible refine bl_alloc ?_ _))))).mono ?_
    rintro e w1 ⟨rfl, nd, rfl⟩
    generalize cutL (sOf (cpD s)) = W at *
    generalize cutR (sOf (cpD s)) = P at *
    generalize cpN s = sg at *
    by_cases hW : 4 < W.length
    · go_wp2_with fail
      go_ret2
      have hb := HB.out
      exact ⟨rfl, (by repeat' (first | (with_reducible exact Below.refl _ _) | (with_reducible assumption) | (with_reducible refine below_drewN ?_ _) | (with_reducible refine Below.drew ?_) | (with_reducible refine bl_alloc ?_ _) | (with_reducible refine bl_set ?_ ?_ _) | go_size | omega))⟩
    · by_cases hP : q < (P.length : Int)
      · go_wp2_with fail
        go_ret2
        have hb := HB.out
        exact ⟨rfl, (by repeat' (first | (with_reducible exact Below.refl _ _) | (with_reducible assumption) | (with_reducible refine below_drewN ?_ _) | (with_reducible refine Below.drew ?_) | (with_reducible refine bl_alloc ?_ _) | (with_reducible refine bl_set ?_ ?_ _) | go_size | omega))⟩
      · rcases g1 : rdN W 0 with ⟨hi, c1⟩
        rcases g2 : rdN P 0 with ⟨lo, c2⟩
        obtain ⟨x1, x2⟩ := rd_bd g1
        obtain ⟨y1, y2⟩ := rd_bd g2
        have x3 := ten_le (show W.length ≤ 4 by omega)
        have y3 := ten_le (show P.length ≤ 16 by omega)
        have RW := Lib.hid (fun w' => rd_at g1 (by omega) w')
        have RP := Lib.hid (fun w' => rd_at g2 (by omega) w')
        have HD := Lib.hid (fun (h : c2 = true) => rdN_ok (l := P) (x := 0) (by rw [g2]; exact h))
        clear g1 g2
        go_wp2_with fail
        refine (RW.out _).mono ?_
        rintro e w2 ⟨rfl, hb⟩
        have hw := bl_behind (w := w) hb (by have hb0 := HB.out; repeat (first | (with_reducible exact hb0) | (with_reducible refine below_drewN ?_ _) | (with_reducible refine Below.drew ?_) | (with_reducible refine bl_alloc ?_ _))); have bx := Blk.below (g := w.heap.size) (t := 24) (cs := #[.int .i64 p, .int .i64 q]) (by repeat (first | (with_reducible exact Bx.out) | (with_reducible exact Blk.new _ _ _) | (with_reducible refine Blk.drewN ?_ _) | (with_reducible refine Blk.drew ?_) | (with_reducible refine Blk.alloc ?_ _))) hb (by first | (have := Bx.out.lt; first | omega | (simp; omega)) | (simp; done) | (simp; omega)); have Bx := Lib.hid bx; obtain ⟨kx0, kx1, fx0, fx1, lx⟩ := blk2 bx; clear bx; have HB := Lib.hid hw; clear hw hb
        go_wp2_with fail
        refine (RP.out _).mono ?_
        rintro e w3 ⟨rfl, hb⟩
        have hw := bl_behind (w := w) hb (by have hb0 := HB.out; repeat (first | (with_reducible exact hb0) | (with_reducible refine below_drewN ?_ _) | (with_reducible refine Below.drew ?_) | (with_reducible refine bl_alloc ?_ _))); have bx := Blk.below (g := w.heap.size) (t := 24) (cs := #[.int .i64 p, .int .i64 q]) (by repeat (first | (with_reducible exact Bx.out) | (with_reducible exact Blk.new _ _ _) | (with_reducible refine Blk.drewN ?_ _) | (with_reducible refine Blk.drew ?_) | (with_reducible refine Blk.alloc ?_ _))) hb (by first | (have := Bx.out.lt; first | omega | (simp; omega)) | (simp; done) | (simp; omega)); have Bx := Lib.hid bx; obtain ⟨kx0, kx1, fx0, fx1, lx⟩ := blk2 bx; clear bx; have HB := Lib.hid hw; clear hw hb
        cases c1
        · cases c2
          all_goals
            go_wp2_with fail
            go_ret2
            have hb := HB.out
            exact ⟨rfl, (by repeat' (first | (with_reducible exact Below.refl _ _) | (with_reducible assumption) | (with_reducible refine below_drewN ?_ _) | (with_reducible refine Below.drew ?_) | (with_reducible refine bl_alloc ?_ _) | (with_reducible refine bl_set ?_ ?_ _) | go_size | omega))⟩
        · cases c2
          · go_wp2_with fail
            go_ret2
            have hb := HB.out
            exact ⟨rfl, (by repeat' (first | (with_reducible exact Below.refl _ _) | (with_reducible assumption) | (with_reducible refine below_drewN ?_ _) | (with_reducible refine Below.drew ?_) | (with_reducible refine bl_alloc ?_ _) | (with_reducible refine bl_set ?_ ?_ _) | go_size | omega))⟩
          · have HD2 := Lib.hid (HD.out rfl)
            clear HD
            have y4 : lo ≤ 9999999999999999 := by omega
            have Y2 := Lib.hid y2
            clear y2
            go_wp2_with fail
            go_loopw [13] (fun v wr => ∃ (pos : Nat) (x : Int), wr = w3.iter (sOf P) pos ∧ v = .int .i64 x ∧ 0 ≤ x ∧ x ≤ 9999999999999999 ∧ pos ≤ P.length ∧ Hid (x * 5 ^ pos ≤ lo)) (fun _ wr => (sOf P).size - wr.iterPos w3.heap.size)
            case atStart => exact ⟨0, lo, rfl, rfl, y1, by omega, Nat.zero_le _, Lib.hid (by simp)⟩
            case round =>
              obtain ⟨pos, x, rfl, rfl, v1, v2, hpl, HX⟩ := hrel
              by_cases hp : pos < (sOf P).size
              · have hnx : ∀ ty, (Instr.next (.pointer (some ⟨w3.heap.size, 0, none⟩)) true ty).run Tryz.prog (w3.iter (sOf P) pos) = _ := fun ty => run_next_any w3 (sOf P) pos ty hp
                have hd := dig_decode HD2.out hp
                by_cases h5 : x % 5 = 0
                · have HX2 := Lib.hid (show x / 5 * 5 ^ (pos + 1) ≤ lo by
                    have e : x / 5 * 5 ^ (pos + 1) = x * 5 ^ pos := by
                      rw [Int.pow_succ, Int.mul_comm (5 ^ pos) 5, ← Int.mul_assoc]
                      congr 1
                      omega
                    rw [e]; exact HX.out)
                  have hp2 := Lib.hid hp
                  clear hp
                  go_wp2_with fail
                  go_roundw
                  case rel => exact ⟨pos + 1, x / 5, rfl, rfl, by omega, by omega, by have := hp2.out; omega, HX2⟩
                  case measure => simp; have := hp2.out; omega
                · go_wp2_with fail
                  have HB := Lib.hid (show Below w.heap.size w (w3.iter (sOf P) (pos + 1)) from bl_alloc HB.out _)
                  go_ret2
                  have hb := HB.out
                  exact ⟨rfl, (by repeat' (first | (with_reducible exact Below.refl _ _) | (with_reducible assumption) | (with_reducible refine below_drewN ?_ _) | (with_reducible refine Below.drew ?_) | (with_reducible refine bl_alloc ?_ _) | (with_reducible refine bl_set ?_ ?_ _) | go_size | omega))⟩
              · have e : pos = P.length := by omega
                subst e
                have hnx : ∀ ty, (Instr.next (.pointer (some ⟨w3.heap.size, 0, none⟩)) true ty).run Tryz.prog (w3.iter (sOf P) P.length) = _ := fun ty => run_next_end w3 (sOf P) P.length ty hp
                obtain ⟨ki0, ki1, -, -, li⟩ := blk2 (show Blk (w3.iter (sOf P) P.length) w.heap.size 24 #[.int .i64 p, .int .i64 q] from Bx.out.alloc _)
                have v3 := five_pow_bd HX.out Y2.out
                have v4 := two_le (show P.length ≤ 16 by omega)
                obtain ⟨N, hN⟩ : ∃ N, wrap64 (wrap64 (hi * 2 ^ q.toNat) + wrap64 (x * 2 ^ (q.toNat - P.length))) = N := ⟨_, rfl⟩
                obtain ⟨N2, hN2⟩ : ∃ N2, wrap64 (-N) = N2 := ⟨_, rfl⟩
                have Bx := Lib.hid (show Blk (w3.iter (sOf P) P.length) w.heap.size 24 #[.int .i64 p, .int .i64 q] from Bx.out.alloc _)
                have HB := Lib.hid (show Below w.heap.size w (w3.iter (sOf P) P.length) from bl_alloc HB.out _)
                clear HX v3 v4
                cases sg
                · have FI := Lib.hid (fun w' => fits_impl p q N w')
                  have SI := Lib.hid (fun w' hT => st_impl p q N w' hT)
                  rcases hf : fitB p q N
                  · rw [hf] at FI
                    clear hf
                    go_wp2_with fail
                    refine (FI.out _).mono ?_
                    rintro e w5 ⟨rfl, hb⟩
                    have hw := bl_behind (w := w) hb (by have hb0 := HB.out; repeat (first | (with_reducible exact hb0) | (with_reducible refine below_drewN ?_ _) | (with_reducible refine Below.drew ?_) | (with_reducible refine bl_alloc ?_ _))); have bx := Blk.below (g := w.heap.size) (t := 24) (cs := #[.int .i64 p, .int .i64 q]) (by repeat (first | (with_reducible exact Bx.out) | (with_reducible exact Blk.new _ _ _) | (with_reducible refine Blk.drewN ?_ _) | (with_reducible refine Blk.drew ?_) | (with_reducible refine Blk.alloc ?_ _))) hb (by first | (have := Bx.out.lt; first | omega | (simp; omega)) | (simp; done) | (simp; omega)); have Bx := Lib.hid bx; obtain ⟨kx0, kx1, fx0, fx1, lx⟩ := blk2 bx; clear bx; have HB := Lib.hid hw; clear hw hb
                    go_wp2_with fail
                    go_ret2
                    have hb := HB.out
                    exact ⟨rfl, (by repeat' (first | (with_reducible exact Below.refl _ _) | (with_reducible assumption) | (with_reducible refine below_drewN ?_ _) | (with_reducible refine Below.drew ?_) | (with_reducible refine bl_alloc ?_ _) | (with_reducible refine bl_set ?_ ?_ _) | go_size | omega))⟩
                  · rw [hf] at FI
                    have hne := HG.out N hf
                    have qq := (Lib.bytes_beq_false_iff _ _).2 hne
                    clear hf hne
                    generalize sOf (sText p q N) = tt at *
                    go_wp2_with fail
                    refine (FI.out _).mono ?_
                    rintro e w5 ⟨rfl, hb⟩
                    have hw := bl_behind (w := w) hb (by have hb0 := HB.out; repeat (first | (with_reducible exact hb0) | (with_reducible refine below_drewN ?_ _) | (with_reducible refine Below.drew ?_) | (with_reducible refine bl_alloc ?_ _))); have bx := Blk.below (g := w.heap.size) (t := 24) (cs := #[.int .i64 p, .int .i64 q]) (by repeat (first | (with_reducible exact Bx.out) | (with_reducible exact Blk.new _ _ _) | (with_reducible refine Blk.drewN ?_ _) | (with_reducible refine Blk.drew ?_) | (with_reducible refine Blk.alloc ?_ _))) hb (by first | (have := Bx.out.lt; first | omega | (simp; omega)) | (simp; done) | (simp; omega)); have Bx := Lib.hid bx; obtain ⟨kx0, kx1, fx0, fx1, lx⟩ := blk2 bx; clear bx; have HB := Lib.hid hw; clear hw hb
                    go_wp2_with fail
                    refine (SI.out _ (HTB.out.below HB.out)).mono ?_
                    rintro e w6 ⟨rfl, hb⟩
                    have hw := bl_behind (w := w) hb (by have hb0 := HB.out; repeat (first | (with_reducible exact hb0) | (with_reducible refine below_drewN ?_ _) | (with_reducible refine Below.drew ?_) | (with_reducible refine bl_alloc ?_ _))); have bx := Blk.below (g := w.heap.size) (t := 24) (cs := #[.int .i64 p, .int .i64 q]) (by repeat (first | (with_reducible exact Bx.out) | (with_reducible exact Blk.new _ _ _) | (with_reducible refine Blk.drewN ?_ _) | (with_reducible refine Blk.drew ?_) | (with_reducible refine Blk.alloc ?_ _))) hb (by first | (have := Bx.out.lt; first | omega | (simp; omega)) | (simp; done) | (simp; omega)); have Bx := Lib.hid bx; obtain ⟨kx0, kx1, fx0, fx1, lx⟩ := blk2 bx; clear bx; have HB := Lib.hid hw; clear hw hb
                    go_wp2_with fail
                    go_ret2
                    have hb := HB.out
                    exact ⟨rfl, (by repeat' (first | (with_reducible exact Below.refl _ _) | (with_reducible assumption) | (with_reducible refine below_drewN ?_ _) | (with_reducible refine Below.drew ?_) | (with_reducible refine bl_alloc ?_ _) | (with_reducible refine bl_set ?_ ?_ _) | go_size | omega))⟩
                · have FI := Lib.hid (fun w' => fits_impl p q N2 w')
                  have SI := Lib.hid (fun w' hT => st_impl p q N2 w' hT)
                  rcases hf : fitB p q N2
                  · rw [hf] at FI
                    clear hf
                    go_wp2_with fail
                    refine (FI.out _).mono ?_
                    rintro e w5 ⟨rfl, hb⟩
                    have hw := bl_behind (w := w) hb (by have hb0 := HB.out; repeat (first | (with_reducible exact hb0) | (with_reducible refine below_drewN ?_ _) | (with_reducible refine Below.drew ?_) | (with_reducible refine bl_alloc ?_ _))); have bx := Blk.below (g := w.heap.size) (t := 24) (cs := #[.int .i64 p, .int .i64 q]) (by repeat (first | (with_reducible exact Bx.out) | (with_reducible exact Blk.new _ _ _) | (with_reducible refine Blk.drewN ?_ _) | (with_reducible refine Blk.drew ?_) | (with_reducible refine Blk.alloc ?_ _))) hb (by first | (have := Bx.out.lt; first | omega | (simp; omega)) | (simp; done) | (simp; omega)); have Bx := Lib.hid bx; obtain ⟨kx0, kx1, fx0, fx1, lx⟩ := blk2 bx; clear bx; have HB := Lib.hid hw; clear hw hb
                    go_wp2_with fail
                    go_ret2
                    have hb := HB.out
                    exact ⟨rfl, (by repeat' (first | (with_reducible exact Below.refl _ _) | (with_reducible assumption) | (with_reducible refine below_drewN ?_ _) | (with_reducible refine Below.drew ?_) | (with_reducible refine bl_alloc ?_ _) | (with_reducible refine bl_set ?_ ?_ _) | go_size | omega))⟩
                  · rw [hf] at FI
                    have hne := HG.out N2 hf
                    have qq := (Lib.bytes_beq_false_iff _ _).2 hne
                    clear hf hne
                    generalize sOf (sText p q N2) = tt at *
                    go_wp2_with fail
                    refine (FI.out _).mono ?_
                    rintro e w5 ⟨rfl, hb⟩
                    have hw := bl_behind (w := w) hb (by have hb0 := HB.out; repeat (first | (with_reducible exact hb0) | (with_reducible refine below_drewN ?_ _) | (with_reducible refine Below.drew ?_) | (with_reducible refine bl_alloc ?_ _))); have bx := Blk.below (g := w.heap.size) (t := 24) (cs := #[.int .i64 p, .int .i64 q]) (by repeat (first | (with_reducible exact Bx.out) | (with_reducible exact Blk.new _ _ _) | (with_reducible refine Blk.drewN ?_ _) | (with_reducible refine Blk.drew ?_) | (with_reducible refine Blk.alloc ?_ _))) hb (by first | (have := Bx.out.lt; first | omega | (simp; omega)) | (simp; done) | (simp; omega)); have Bx := Lib.hid bx; obtain ⟨kx0, kx1, fx0, fx1, lx⟩ := blk2 bx; clear bx; have HB := Lib.hid hw; clear hw hb
                    go_wp2_with fail
                    refine (SI.out _ (HTB.out.below HB.out)).mono ?_
                    rintro e w6 ⟨rfl, hb⟩
                    have hw := bl_behind (w := w) hb (by have hb0 := HB.out; repeat (first | (with_reducible exact hb0) | (with_reducible refine below_drewN ?_ _) | (with_reducible refine Below.drew ?_) | (with_reducible refine bl_alloc ?_ _))); have bx := Blk.below (g := w.heap.size) (t := 24) (cs := #[.int .i64 p, .int .i64 q]) (by repeat (first | (with_reducible exact Bx.out) | (with_reducible exact Blk.new _ _ _) | (with_reducible refine Blk.drewN ?_ _) | (with_reducible refine Blk.drew ?_) | (with_reducible refine Blk.alloc ?_ _))) hb (by first | (have := Bx.out.lt; first | omega | (simp; omega)) | (simp; done) | (simp; omega)); have Bx := Lib.hid bx; obtain ⟨kx0, kx1, fx0, fx1, lx⟩ := blk2 bx; clear bx; have HB := Lib.hid hw; clear hw hb
                    go_wp2_with fail
                    go_ret2
                    have hb := HB.out
                    exact ⟨rfl, (by repeat' (first | (with_reducible exact Below.refl _ _) | (with_reducible assumption) | (with_reducible refine below_drewN ?_ _) | (with_reducible refine Below.drew ?_) | (with_reducible refine bl_alloc ?_ _) | (with_reducible refine bl_set ?_ ?_ _) | go_size | omega))⟩

theorem good_parts {q m : Int} (hm : 0 ≤ m) : cutL (sOf (mText q m)) = dec (m / 2 ^ q.toNat) ∧ cutR (sOf (mText q m)) = gd q.toNat q.toNat (m % 2 ^ q.toNat) := by
  have e : (sOf (mText q m)).data.toList = mText q m := rfl
  unfold cutL cutR
  rw [e, cut_spl]
  exact mText_cut hm

set_option maxRecDepth 100000 in
set_option maxHeartbeats 8000000 in
theorem rs_goodP (p q m : Int) (s : ByteArray) (mc : Int) (w : World) (hT : HT w) (hm : w.cell? ⟨0, 0, none⟩ = some (.int .i64 mc)) (hf : fitB p q (m) = true) (m0 : 0 ≤ m) (m1 : m ≤ 268435456) (m2 : m / 2 ^ q.toNat ≤ 4096) (hD : cpD s = mText q m) (hN : cpN s = false) (ht : sOf (sText p q (m)) = s) : Calls Tryz.prog 58 #[.agg #[.int .i64 p, .int .i64 q], .string s] w fun e w' => e = .returned (.tuple #[.int .i64 (m), .bool true]) ∧ Below w.heap.size w w' := by
  have HTB := Lib.hid hT
  have HM := Lib.hid hm
  have HB := Lib.hid (Below.refl w.heap.size w)
  have Bx := Lib.hid (Blk.new w 24 #[.int .i64 p, .int .i64 q])
  obtain ⟨⟨h1, h2, h3, h4⟩, -, -⟩ := fitB_mk hf
  have hv := Lib.hid (fmtB_in h1 h2 h3 h4).symm
  have hp := two_pow_pos q.toNat
  obtain ⟨r1, u, u0, r2, hu⟩ := mText_read (q := q) m0
  obtain ⟨c1, c2⟩ := good_parts (q := q) m0
  have lW := dec_len (n := m / 2 ^ q.toNat) (Int.ediv_nonneg m0 (Int.le_of_lt hp)) (by omega)
  have lP := gd_len (q := q.toNat) q.toNat (m % 2 ^ q.toNat)
  have dP := gd_digs _ _ (gr_start (q := q.toNat) (Int.emod_nonneg m (Int.ne_of_gt hp)) (Int.emod_lt_of_pos m hp))
  have hs := Int.mul_ediv_add_emod m (2 ^ q.toNat)
  have hd0 := Int.ediv_nonneg m0 (Int.le_of_lt hp)
  have hr0 := Int.emod_nonneg m (Int.ne_of_gt hp)
  have hr1 := Int.emod_lt_of_pos m hp
  obtain ⟨b1, b2⟩ := q16_bd h3 h4
  obtain ⟨y1, y2⟩ := rd_bd r2
  have y3 := ten_le (show (gd q.toNat q.toNat (m % 2 ^ q.toNat)).length ≤ 16 by omega)
  have zD : (sOf (mText q m)).size ≤ 100 := by rw [sOf_size]; have := mText_len m0 (show m / 2 ^ q.toNat ≤ 9999 by omega); omega
  have CUT := Lib.hid (fun w' hm => cut_dot (sOf (mText q m)) mc w' (by omega) hm)
  rw [c1, c2] at CUT
  have CPT := Lib.hid (fun w' => cutp s w')
  rw [hD, hN] at CPT
  have FI := Lib.hid (fun w' => fits_impl p q (m) w')
  rw [hf] at FI
  have SI := Lib.hid (fun w' hT => st_impl p q (m) w' hT)
  have qq := (Lib.bytes_beq_iff _ _).2 ht
  generalize sOf (sText p q (m)) = tt at *
  generalize sOf (mText q m) = D at *
  generalize dec (m / 2 ^ q.toNat) = W at *
  generalize hP : gd q.toNat q.toNat (m % 2 ^ q.toNat) = P at *
  generalize hhi : m / 2 ^ q.toNat = hi at *
  generalize hrr : m % 2 ^ q.toNat = rr at *
  have zW := sOf_size W
  have zP := sOf_size P
  have RW := Lib.hid (fun w' => rd_at r1 (by omega) w')
  have RP := Lib.hid (fun w' => rd_at r2 (by omega) w')
  have HD2 := Lib.hid dP
  have y4 : 5 ^ P.length * u ≤ 9999999999999999 := by omega
  have HE : Hid (∀ x, x = u → wrap64 (wrap64 (hi * 2 ^ q.toNat) + wrap64 (x * 2 ^ (q.toNat - P.length))) = m) := Lib.hid (fun x hx => by
    rw [hx, hu, Int.mul_comm hi]
    have := Int.mul_nonneg (Int.le_of_lt hp) hd0
    rw [wr64 (n := 2 ^ q.toNat * hi) (by omega) (by omega), wr64 (n := rr) (by omega) (by omega), hs]
    exact wr64 (by omega) (by omega))
  have hw2 : wrap64 (-m) = -m := wr64 (by omega) (by omega)
  clear hT hm hf ht hD hN r1 r2 hu c1 c2 dP hs hP hhi hrr y2 y3 b1 b2
  go_enter Tryz.func58, Tryz.ntmps58
  go_wp2_with (first | (go_at_call 75; refine (fmvb_impl hv.out _).mono ?_; rintro e w' ⟨rfl, mm, rfl⟩))
  refine (CPT.out _).mono ?_
  rintro e w' ⟨rfl, rfl⟩
  go_wp2_with fail
  refine (CUT.out _ (cell0_below HM.out (by have hb0 := HB.out; repeat (first | (with_reducible exact hb0) | (with_reducible refine below_drewN ?_ _) | (with_reducible refine Below.drew ?_) | (with_reducible refine bl_alloc ?_ _))))).mono ?_
  rintro e w1 ⟨rfl, nd, rfl⟩
  have hW : ¬ 4 < W.length := by omega
  have hPq : ¬ q < (P.length : Int) := by omega
  go_wp2_with fail
  refine (RW.out _).mono ?_
  rintro e w2 ⟨rfl, hb⟩
  have hw := bl_behind (w := w) hb (by have hb0 := HB.out; repeat (first | (with_reducible exact hb0) | (with_reducible refine below_drewN ?_ _) | (with_reducible refine Below.drew ?_) | (with_reducible refine bl_alloc ?_ _))); have bx := Blk.below (g := w.heap.size) (t := 24) (cs := #[.int .i64 p, .int .i64 q]) (by repeat (first | (with_reducible exact Bx.out) | (with_reducible exact Blk.new _ _ _) | (with_reducible refine Blk.drewN ?_ _) | (with_reducible refine Blk.drew ?_) | (with_reducible refine Blk.alloc ?_ _))) hb (by first | (have := Bx.out.lt; first | omega | (simp; omega)) | (simp; done) | (simp; omega)); have Bx := Lib.hid bx; obtain ⟨kx0, kx1, fx0, fx1, lx⟩ := blk2 bx; clear bx; have HB := Lib.hid hw; clear hw hb
  go_wp2_with fail
  refine (RP.out _).mono ?_
  rintro e w3 ⟨rfl, hb⟩
  have hw := bl_behind (w := w) hb (by have hb0 := HB.out; repeat (first | (with_reducible exact hb0) | (with_reducible refine below_drewN ?_ _) | (with_reducible refine Below.drew ?_) | (with_reducible refine bl_alloc ?_ _))); have bx := Blk.below (g := w.heap.size) (t := 24) (cs := #[.int .i64 p, .int .i64 q]) (by repeat (first | (with_reducible exact Bx.out) | (with_reducible exact Blk.new _ _ _) | (with_reducible refine Blk.drewN ?_ _) | (with_reducible refine Blk.drew ?_) | (with_reducible refine Blk.alloc ?_ _))) hb (by first | (have := Bx.out.lt; first | omega | (simp; omega)) | (simp; done) | (simp; omega)); have Bx := Lib.hid bx; obtain ⟨kx0, kx1, fx0, fx1, lx⟩ := blk2 bx; clear bx; have HB := Lib.hid hw; clear hw hb
  go_wp2_with fail
  go_loopw [13] (fun v wr => ∃ (pos : Nat) (x : Int), wr = w3.iter (sOf P) pos ∧ v = .int .i64 x ∧ 0 ≤ x ∧ x ≤ 9999999999999999 ∧ pos ≤ P.length ∧ Hid (x = 5 ^ (P.length - pos) * u)) (fun _ wr => (sOf P).size - wr.iterPos w3.heap.size)
  case atStart => exact ⟨0, _, rfl, rfl, y1, y4, Nat.zero_le _, Lib.hid rfl⟩
  case round =>
    obtain ⟨pos, x, rfl, rfl, v1, v2, hpl, HX⟩ := hrel
    by_cases hp : pos < (sOf P).size
    · have hnx : ∀ ty, (Instr.next (.pointer (some ⟨w3.heap.size, 0, none⟩)) true ty).run Tryz.prog (w3.iter (sOf P) pos) = _ := fun ty => run_next_any w3 (sOf P) pos ty hp
      have hd := dig_decode HD2.out hp
      have e5 : x = 5 * (5 ^ (P.length - (pos + 1)) * u) := by
        have h5 : P.length - pos = (P.length - (pos + 1)) + 1 := by omega
        rw [HX.out, h5, Int.pow_succ, Int.mul_comm _ 5, Int.mul_assoc]
      have h5 : x % 5 = 0 := by omega
      have HX2 : Hid (x / 5 = 5 ^ (P.length - (pos + 1)) * u) := Lib.hid (by omega)
      have hp2 := Lib.hid hp
      clear hp e5
      go_wp2_with fail
      go_roundw
      case rel => exact ⟨pos + 1, x / 5, rfl, rfl, by omega, by omega, by have := hp2.out; omega, HX2⟩
      case measure => simp; have := hp2.out; omega
    · have e : pos = P.length := by omega
      subst e
      have hnx : ∀ ty, (Instr.next (.pointer (some ⟨w3.heap.size, 0, none⟩)) true ty).run Tryz.prog (w3.iter (sOf P) P.length) = _ := fun ty => run_next_end w3 (sOf P) P.length ty hp
      obtain ⟨ki0, ki1, -, -, li⟩ := blk2 (show Blk (w3.iter (sOf P) P.length) w.heap.size 24 #[.int .i64 p, .int .i64 q] from Bx.out.alloc _)
      have hE := HE.out x (by rw [HX.out, Nat.sub_self]; simp)
      have Bx := Lib.hid (show Blk (w3.iter (sOf P) P.length) w.heap.size 24 #[.int .i64 p, .int .i64 q] from Bx.out.alloc _)
      have HB := Lib.hid (show Below w.heap.size w (w3.iter (sOf P) P.length) from bl_alloc HB.out _)
      clear HX
      go_wp2_with fail
      refine (FI.out _).mono ?_
      rintro e w5 ⟨rfl, hb⟩
      have hw := bl_behind (w := w) hb (by have hb0 := HB.out; repeat (first | (with_reducible exact hb0) | (with_reducible refine below_drewN ?_ _) | (with_reducible refine Below.drew ?_) | (with_reducible refine bl_alloc ?_ _))); have bx := Blk.below (g := w.heap.size) (t := 24) (cs := #[.int .i64 p, .int .i64 q]) (by repeat (first | (with_reducible exact Bx.out) | (with_reducible exact Blk.new _ _ _) | (with_reducible refine Blk.drewN ?_ _) | (with_reducible refine Blk.drew ?_) | (with_reducible refine Blk.alloc ?_ _))) hb (by first | (have := Bx.out.lt; first | omega | (simp; omega)) | (simp; done) | (simp; omega)); have Bx := Lib.hid bx; obtain ⟨kx0, kx1, fx0, fx1, lx⟩ := blk2 bx; clear bx; have HB := Lib.hid hw; clear hw hb
      go_wp2_with fail
      refine (SI.out _ (HTB.out.below HB.out)).mono ?_
      rintro e w6 ⟨rfl, hb⟩
      have hw := bl_behind (w := w) hb (by have hb0 := HB.out; repeat (first | (with_reducible exact hb0) | (with_reducible refine below_drewN ?_ _) | (with_reducible refine Below.drew ?_) | (with_reducible refine bl_alloc ?_ _))); have bx := Blk.below (g := w.heap.size) (t := 24) (cs := #[.int .i64 p, .int .i64 q]) (by repeat (first | (with_reducible exact Bx.out) | (with_reducible exact Blk.new _ _ _) | (with_reducible refine Blk.drewN ?_ _) | (with_reducible refine Blk.drew ?_) | (with_reducible refine Blk.alloc ?_ _))) hb (by first | (have := Bx.out.lt; first | omega | (simp; omega)) | (simp; done) | (simp; omega)); have Bx := Lib.hid bx; obtain ⟨kx0, kx1, fx0, fx1, lx⟩ := blk2 bx; clear bx; have HB := Lib.hid hw; clear hw hb
      go_wp2_with fail
      go_ret2
      have hb := HB.out
      exact ⟨rfl, (by repeat' (first | (with_reducible exact Below.refl _ _) | (with_reducible assumption) | (with_reducible refine below_drewN ?_ _) | (with_reducible refine Below.drew ?_) | (with_reducible refine bl_alloc ?_ _) | (with_reducible refine bl_set ?_ ?_ _) | go_size | omega))⟩

set_option maxRecDepth 100000 in
set_option maxHeartbeats 8000000 in
theorem rs_goodN (p q m : Int) (s : ByteArray) (mc : Int) (w : World) (hT : HT w) (hm : w.cell? ⟨0, 0, none⟩ = some (.int .i64 mc)) (hf : fitB p q (-m) = true) (m0 : 0 ≤ m) (m1 : m ≤ 268435456) (m2 : m / 2 ^ q.toNat ≤ 4096) (hD : cpD s = mText q m) (hN : cpN s = true) (ht : sOf (sText p q (-m)) = s) : Calls Tryz.prog 58 #[.agg #[.int .i64 p, .int .i64 q], .string s] w fun e w' => e = .returned (.tuple #[.int .i64 (-m), .bool true]) ∧ Below w.heap.size w w' := by
  have HTB := Lib.hid hT
  have HM := Lib.hid hm
  have HB := Lib.hid (Below.refl w.heap.size w)
  have Bx := Lib.hid (Blk.new w 24 #[.int .i64 p, .int .i64 q])
  obtain ⟨⟨h1, h2, h3, h4⟩, -, -⟩ := fitB_mk hf
  have hv := Lib.hid (fmtB_in h1 h2 h3 h4).symm
  have hp := two_pow_pos q.toNat
  obtain ⟨r1, u, u0, r2, hu⟩ := mText_read (q := q) m0
  obtain ⟨c1, c2⟩ := good_parts (q := q) m0
  have lW := dec_len (n := m / 2 ^ q.toNat) (Int.ediv_nonneg m0 (Int.le_of_lt hp)) (by omega)
  have lP := gd_len (q := q.toNat) q.toNat (m % 2 ^ q.toNat)
  have dP := gd_digs _ _ (gr_start (q := q.toNat) (Int.emod_nonneg m (Int.ne_of_gt hp)) (Int.emod_lt_of_pos m hp))
  have hs := Int.mul_ediv_add_emod m (2 ^ q.toNat)
  have hd0 := Int.ediv_nonneg m0 (Int.le_of_lt hp)
  have hr0 := Int.emod_nonneg m (Int.ne_of_gt hp)
  have hr1 := Int.emod_lt_of_pos m hp
  obtain ⟨b1, b2⟩ := q16_bd h3 h4
  obtain ⟨y1, y2⟩ := rd_bd r2
  have y3 := ten_le (show (gd q.toNat q.toNat (m % 2 ^ q.toNat)).length ≤ 16 by omega)
  have zD : (sOf (mText q m)).size ≤ 100 := by rw [sOf_size]; have := mText_len m0 (show m / 2 ^ q.toNat ≤ 9999 by omega); omega
  have CUT := Lib.hid (fun w' hm => cut_dot (sOf (mText q m)) mc w' (by omega) hm)
  rw [c1, c2] at CUT
  have CPT := Lib.hid (fun w' => cutp s w')
  rw [hD, hN] at CPT
  have FI := Lib.hid (fun w' => fits_impl p q (-m) w')
  rw [hf] at FI
  have SI := Lib.hid (fun w' hT => st_impl p q (-m) w' hT)
  have qq := (Lib.bytes_beq_iff _ _).2 ht
  generalize sOf (sText p q (-m)) = tt at *
  generalize sOf (mText q m) = D at *
  generalize dec (m / 2 ^ q.toNat) = W at *
  generalize hP : gd q.toNat q.toNat (m % 2 ^ q.toNat) = P at *
  generalize hhi : m / 2 ^ q.toNat = hi at *
  generalize hrr : m % 2 ^ q.toNat = rr at *
  have zW := sOf_size W
  have zP := sOf_size P
  have RW := Lib.hid (fun w' => rd_at r1 (by omega) w')
  have RP := Lib.hid (fun w' => rd_at r2 (by omega) w')
  have HD2 := Lib.hid dP
  have y4 : 5 ^ P.length * u ≤ 9999999999999999 := by omega
  have HE : Hid (∀ x, x = u → wrap64 (wrap64 (hi * 2 ^ q.toNat) + wrap64 (x * 2 ^ (q.toNat - P.length))) = m) := Lib.hid (fun x hx => by
    rw [hx, hu, Int.mul_comm hi]
    have := Int.mul_nonneg (Int.le_of_lt hp) hd0
    rw [wr64 (n := 2 ^ q.toNat * hi) (by omega) (by omega), wr64 (n := rr) (by omega) (by omega), hs]
    exact wr64 (by omega) (by omega))
  have hw2 : wrap64 (-m) = -m := wr64 (by omega) (by omega)
  clear hT hm hf ht hD hN r1 r2 hu c1 c2 dP hs hP hhi hrr y2 y3 b1 b2
  go_enter Tryz.func58, Tryz.ntmps58
  go_wp2_with (first | (go_at_call 75; refine (fmvb_impl hv.out _).mono ?_; rintro e w' ⟨rfl, mm, rfl⟩))
  refine (CPT.out _).mono ?_
  rintro e w' ⟨rfl, rfl⟩
  go_wp2_with fail
  refine (CUT.out _ (cell0_below HM.out (by have hb0 := HB.out; repeat (first | (with_reducible exact hb0) | (with_reducible refine below_drewN ?_ _) | (with_reducible refine Below.drew ?_) | (with_reducible refine bl_alloc ?_ _))))).mono ?_
  rintro e w1 ⟨rfl, nd, rfl⟩
  have hW : ¬ 4 < W.length := by omega
  have hPq : ¬ q < (P.length : Int) := by omega
  go_wp2_with fail
  refine (RW.out _).mono ?_
  rintro e w2 ⟨rfl, hb⟩
  have hw := bl_behind (w := w) hb (by have hb0 := HB.out; repeat (first | (with_reducible exact hb0) | (with_reducible refine below_drewN ?_ _) | (with_reducible refine Below.drew ?_) | (with_reducible refine bl_alloc ?_ _))); have bx := Blk.below (g := w.heap.size) (t := 24) (cs := #[.int .i64 p, .int .i64 q]) (by repeat (first | (with_reducible exact Bx.out) | (with_reducible exact Blk.new _ _ _) | (with_reducible refine Blk.drewN ?_ _) | (with_reducible refine Blk.drew ?_) | (with_reducible refine Blk.alloc ?_ _))) hb (by first | (have := Bx.out.lt; first | omega | (simp; omega)) | (simp; done) | (simp; omega)); have Bx := Lib.hid bx; obtain ⟨kx0, kx1, fx0, fx1, lx⟩ := blk2 bx; clear bx; have HB := Lib.hid hw; clear hw hb
  go_wp2_with fail
  refine (RP.out _).mono ?_
  rintro e w3 ⟨rfl, hb⟩
  have hw := bl_behind (w := w) hb (by have hb0 := HB.out; repeat (first | (with_reducible exact hb0) | (with_reducible refine below_drewN ?_ _) | (with_reducible refine Below.drew ?_) | (with_reducible refine bl_alloc ?_ _))); have bx := Blk.below (g := w.heap.size) (t := 24) (cs := #[.int .i64 p, .int .i64 q]) (by repeat (first | (with_reducible exact Bx.out) | (with_reducible exact Blk.new _ _ _) | (with_reducible refine Blk.drewN ?_ _) | (with_reducible refine Blk.drew ?_) | (with_reducible refine Blk.alloc ?_ _))) hb (by first | (have := Bx.out.lt; first | omega | (simp; omega)) | (simp; done) | (simp; omega)); have Bx := Lib.hid bx; obtain ⟨kx0, kx1, fx0, fx1, lx⟩ := blk2 bx; clear bx; have HB := Lib.hid hw; clear hw hb
  go_wp2_with fail
  go_loopw [13] (fun v wr => ∃ (pos : Nat) (x : Int), wr = w3.iter (sOf P) pos ∧ v = .int .i64 x ∧ 0 ≤ x ∧ x ≤ 9999999999999999 ∧ pos ≤ P.length ∧ Hid (x = 5 ^ (P.length - pos) * u)) (fun _ wr => (sOf P).size - wr.iterPos w3.heap.size)
  case atStart => exact ⟨0, _, rfl, rfl, y1, y4, Nat.zero_le _, Lib.hid rfl⟩
  case round =>
    obtain ⟨pos, x, rfl, rfl, v1, v2, hpl, HX⟩ := hrel
    by_cases hp : pos < (sOf P).size
    · have hnx : ∀ ty, (Instr.next (.pointer (some ⟨w3.heap.size, 0, none⟩)) true ty).run Tryz.prog (w3.iter (sOf P) pos) = _ := fun ty => run_next_any w3 (sOf P) pos ty hp
      have hd := dig_decode HD2.out hp
      have e5 : x = 5 * (5 ^ (P.length - (pos + 1)) * u) := by
        have h5 : P.length - pos = (P.length - (pos + 1)) + 1 := by omega
        rw [HX.out, h5, Int.pow_succ, Int.mul_comm _ 5, Int.mul_assoc]
      have h5 : x % 5 = 0 := by omega
      have HX2 : Hid (x / 5 = 5 ^ (P.length - (pos + 1)) * u) := Lib.hid (by omega)
      have hp2 := Lib.hid hp
      clear hp e5
      go_wp2_with fail
      go_roundw
      case rel => exact ⟨pos + 1, x / 5, rfl, rfl, by omega, by omega, by have := hp2.out; omega, HX2⟩
      case measure => simp; have := hp2.out; omega
    · have e : pos = P.length := by omega
      subst e
      have hnx : ∀ ty, (Instr.next (.pointer (some ⟨w3.heap.size, 0, none⟩)) true ty).run Tryz.prog (w3.iter (sOf P) P.length) = _ := fun ty => run_next_end w3 (sOf P) P.length ty hp
      obtain ⟨ki0, ki1, -, -, li⟩ := blk2 (show Blk (w3.iter (sOf P) P.length) w.heap.size 24 #[.int .i64 p, .int .i64 q] from Bx.out.alloc _)
      have hE := HE.out x (by rw [HX.out, Nat.sub_self]; simp)
      have Bx := Lib.hid (show Blk (w3.iter (sOf P) P.length) w.heap.size 24 #[.int .i64 p, .int .i64 q] from Bx.out.alloc _)
      have HB := Lib.hid (show Below w.heap.size w (w3.iter (sOf P) P.length) from bl_alloc HB.out _)
      clear HX
      go_wp2_with fail
      refine (FI.out _).mono ?_
      rintro e w5 ⟨rfl, hb⟩
      have hw := bl_behind (w := w) hb (by have hb0 := HB.out; repeat (first | (with_reducible exact hb0) | (with_reducible refine below_drewN ?_ _) | (with_reducible refine Below.drew ?_) | (with_reducible refine bl_alloc ?_ _))); have bx := Blk.below (g := w.heap.size) (t := 24) (cs := #[.int .i64 p, .int .i64 q]) (by repeat (first | (with_reducible exact Bx.out) | (with_reducible exact Blk.new _ _ _) | (with_reducible refine Blk.drewN ?_ _) | (with_reducible refine Blk.drew ?_) | (with_reducible refine Blk.alloc ?_ _))) hb (by first | (have := Bx.out.lt; first | omega | (simp; omega)) | (simp; done) | (simp; omega)); have Bx := Lib.hid bx; obtain ⟨kx0, kx1, fx0, fx1, lx⟩ := blk2 bx; clear bx; have HB := Lib.hid hw; clear hw hb
      go_wp2_with fail
      refine (SI.out _ (HTB.out.below HB.out)).mono ?_
      rintro e w6 ⟨rfl, hb⟩
      have hw := bl_behind (w := w) hb (by have hb0 := HB.out; repeat (first | (with_reducible exact hb0) | (with_reducible refine below_drewN ?_ _) | (with_reducible refine Below.drew ?_) | (with_reducible refine bl_alloc ?_ _))); have bx := Blk.below (g := w.heap.size) (t := 24) (cs := #[.int .i64 p, .int .i64 q]) (by repeat (first | (with_reducible exact Bx.out) | (with_reducible exact Blk.new _ _ _) | (with_reducible refine Blk.drewN ?_ _) | (with_reducible refine Blk.drew ?_) | (with_reducible refine Blk.alloc ?_ _))) hb (by first | (have := Bx.out.lt; first | omega | (simp; omega)) | (simp; done) | (simp; omega)); have Bx := Lib.hid bx; obtain ⟨kx0, kx1, fx0, fx1, lx⟩ := blk2 bx; clear bx; have HB := Lib.hid hw; clear hw hb
      go_wp2_with fail
      go_ret2
      have hb := HB.out
      exact ⟨rfl, (by repeat' (first | (with_reducible exact Below.refl _ _) | (with_reducible assumption) | (with_reducible refine below_drewN ?_ _) | (with_reducible refine Below.drew ?_) | (with_reducible refine bl_alloc ?_ _) | (with_reducible refine bl_set ?_ ?_ _) | go_size | omega))⟩

theorem rds_impl (p q : Int) (s : ByteArray) (mc : Int) (w : World) (hT : HT w) (hs : s.size ≤ 2000000) (hm : w.cell? ⟨0, 0, none⟩ = some (.int .i64 mc)) : Calls Tryz.prog 58 #[.agg #[.int .i64 p, .int .i64 q], .string s] w fun e w' => e = .returned (.tuple #[.int .i64 (rsN p q s), .bool (rsOk p q s)]) ∧ Below w.heap.size w w' := by
  by_cases hg : rsGood p q s
  · obtain ⟨n, hf, ht⟩ := hg
    obtain ⟨e1, e2⟩ := rs_yes hf ht
    rw [e1, e2]
    obtain ⟨-, -, hn⟩ := fit_parts hf
    have hl : s.data.toList = sText p q n := by rw [← ht]; rfl
    rcases hn with ⟨m0, m1, m2, HT⟩ | ⟨m, rfl, m0, m1, m2, HT⟩
    · rw [HT] at hl
      obtain ⟨b, l, hh, hb⟩ := mText_head (q := q) m0
      have h45 : b ≠ 45 := by intro e; rw [e] at hb; exact absurd hb (by unfold isDig; decide)
      obtain ⟨d1, d2⟩ := cp_pos (s := s) (b := b) (l := l) (by rw [hl]; unfold sgT; rw [hh]; rfl) h45
      exact rs_goodP p q n s mc w hT hm hf m0 m1 m2 (by rw [d1, hh]) d2 ht
    · rw [HT] at hl
      obtain ⟨d1, d2⟩ := cp_neg (s := s) (l := mText q m) (by rw [hl]; rfl)
      exact rs_goodN p q m s mc w hT hm hf (by omega) m1 m2 d1 d2 ht
  · obtain ⟨e1, e2⟩ := rs_no hg
    rw [e1, e2]
    exact rs_bad p q s mc w hT hs hm hg
end Go.Proofs.YtidnnnjjpjadlaaGreatDoor
