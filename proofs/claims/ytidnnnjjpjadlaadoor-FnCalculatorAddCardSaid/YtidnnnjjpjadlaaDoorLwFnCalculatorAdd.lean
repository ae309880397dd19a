/- Calculators add: the line that adds the text of a stored number shows what AddStored returns. No condition. -/
import Derived.Test.YtidnnnjjpjadlaaDoorDrawAd
import Derived.Test.YtidnnnjjpjadlaaDoorCln
import Derived.Test.YtidnnnjjpjadlaaDoorCardS
import Derived.Test.YtidnnnjjpjadlaaDoorAlive
namespace Go.Proofs.YtidnnnjjpjadlaaDoor
open Go.ChangeShapes Go.WideShapes Go.ChangeAt Go.RowKit

attribute [local go_sem] alloc_drewN' setCell_drewN'
theorem sText_size' (p q n : Int) : (sOf (sText p q n)).size ≤ 30 := by
  rw [sOf_size]
  rcases hf : fitB p q n
  · rw [sText_out hf]; simp
  · obtain ⟨k1, k2, k3⟩ := fit_mag hf
    rcases (by omega : 0 ≤ n ∨ n < 0) with h | h
    · rw [sText_pos hf h]
      have := mText_len (q := q) h (by have := k1 h; omega)
      omega
    · rw [sText_neg hf h]
      have := mText_len (q := q) (m := -n) (by omega) (by have := k2 h; omega)
      simp; omega
theorem add_not {t : ByteArray} (c : List UInt8) (h : c.head? ≠ some 97) : (((⟨#[97, 100, 100, 32]⟩ : ByteArray) ++ t).toList == c) = false := by
  have hl : ((⟨#[97, 100, 100, 32]⟩ : ByteArray) ++ t).data.toList = 97 :: 100 :: 100 :: 32 :: t.data.toList := by simp [ByteArray.data_append]
  rw [ByteArray.toList_eq, hl]
  exact beq_eq_false_iff_ne.2 (fun e => by rw [← e] at h; exact h rfl)
def CaCut (w : World) (f : Nat) (p q n : Int) (x : Bool) (t : ByteArray) (s r : Value) (wx : World) : Prop := ∃ g : Nat, s = .pointer (some ⟨g, 0, none⟩) ∧ r = .string t ∧ Blk wx g 32 #[.int .i64 p, .int .i64 q, .int .i64 n, .bool x] ∧ Blk wx f 24 #[.int .i64 p, .int .i64 q] ∧ Below w.heap.size w wx
theorem caCut_mk {w w7 : World} {f g : Nat} {p q n : Int} {x : Bool} {t : ByteArray} {c0 c1 c2 c3 : Value} (bn : Blk w7 g 32 #[c0, c1, c2, c3]) (bx : Blk w7 f 24 #[.int .i64 p, .int .i64 q]) (hb : Below w.heap.size w w7) (hg : w.heap.size ≤ g) (hne : f ≠ g) :
    CaCut w f p q n x t (.pointer (some ⟨g, 0, none⟩)) (.string t) ((((w7.setCell ⟨g, 0, none⟩ (.int .i64 p)).setCell ⟨g, 1, none⟩ (.int .i64 q)).setCell ⟨g, 2, none⟩ (.int .i64 n)).setCell ⟨g, 3, none⟩ (.bool x)) :=
  ⟨g, rfl, rfl, (((bn.set 0 _).set 1 _).set 2 _).set 3 _, (((bx.far (p := ⟨g, 0, none⟩) hne _).far (p := ⟨g, 1, none⟩) hne _).far (p := ⟨g, 2, none⟩) hne _).far (p := ⟨g, 3, none⟩) hne _, (((hb.setCell (p := ⟨g, 0, none⟩) hg _).setCell (p := ⟨g, 1, none⟩) hg _).setCell (p := ⟨g, 2, none⟩) hg _).setCell (p := ⟨g, 3, none⟩) hg _⟩
theorem caCut_fin {w w7 : World} {f : Nat} {p q n : Int} {x : Bool} {t : ByteArray} (bx : Blk w7 f 24 #[.int .i64 p, .int .i64 q]) (hb : Below w.heap.size w w7) :
    CaCut w f p q n x t (.pointer (some ⟨w7.heap.size, 0, none⟩)) (.string t) (w7.alloc (.cells #[.int .i64 p, .int .i64 q, .int .i64 n, .bool x] 32)) :=
  ⟨w7.heap.size, rfl, rfl, Blk.new w7 32 _, bx.alloc _, bl_alloc hb _⟩
set_option maxRecDepth 100000 in
set_option maxHeartbeats 64000000 in
theorem fnCalculatorAdd.walk (w : World) (a : Option Addr) (len cap : Nat) (zs : List Int) (hrow : IsRow .u8 w a len cap zs) (hL : laidMetH Tryd.prog laidL w) (hsh : w.ShapedOpen Tryd.prog) :
    Calls Tryd.prog 3 #[.slice a len cap] w fun e w' => e = .returned (.bool true) ∧ Below w.heap.size w w' := by
  obtain ⟨hl1, hl2, -⟩ := code_of_row hrow
  have hm : (len : Int) ≤ 9223372036854775807 := by unfold maxLen at hl2; omega
  by_cases hbig : (1048576 : Int) < (len : Int)
  · clear hrow hl1 hl2
    go_enter Tryd.func3, Tryd.ntmps3
    go_wp2
    go_ret
    exact ⟨rfl, Below.refl _ _⟩
  · obtain ⟨mx, hmx⟩ : ∃ m, w.cell? ⟨0, 0, none⟩ = some (.int .i64 m) := Tryd.laysM145.s1_3 w hsh
    have HTB := Lib.hid (ht_of_laid hL)
    have HM := Lib.hid hmx
    have HB := Lib.hid (Below.refl w.heap.size w)
    have HROW := Lib.hid hrow
    clear hl1 hl2 hmx hrow
    go_enter Tryd.func3, Tryd.ntmps3
    go_wp2_with fail
    refine (drawadd_any HROW.out).mono ?_
    rintro e w1 ⟨p, q, a1, b1, -, -, -, rfl, hb⟩
    (repeat (first | (replace hb := undrewN hb) | (replace hb := undrew hb))); (repeat (first | (replace hb := undrewN hb) | (replace hb := undrew hb) | (replace hb := unalloc hb))); have HB := Lib.hid (HB.out.trans (hb.mono HB.out.size)); clear hb
    have FA := Lib.hid (fun w' => fits_spec p q a1 w')
    have FBB := Lib.hid (fun w' => fits_spec p q b1 w')
    have AI := Lib.hid (fun w' => add_impl p q a1 b1 w')
    have AS := Lib.hid (fun w' => add_spec p q a1 b1 w')
    rcases ha : fitB p q a1
    · rw [ha] at FA
      clear ha
      generalize adN p q a1 b1 = v at *
      generalize adOk p q a1 b1 = o at *
      cases o
      all_goals
        go_wp2_with fail
        refine (AI.out _).mono ?_
        rintro e w2 ⟨rfl, hb⟩
        have hw := bl_behind (w := w) hb (by have hb0 := HB.out; repeat (first | (with_reducible exact hb0) | (with_reducible refine below_drewN ?_ _) | (with_reducible refine Below.drew ?_) | (with_reducible refine bl_alloc ?_ _))); have bx := Blk.below (g := w1.heap.size) (t := 24) (cs := #[.int .i64 p, .int .i64 q]) (by repeat (first | (with_reducible exact Bx.out) | (with_reducible exact Blk.new _ _ _) | (with_reducible refine Blk.drewN ?_ _) | (with_reducible refine Blk.drew ?_) | (with_reducible refine Blk.alloc ?_ _))) hb (by first | (have := Bx.out.lt; first | omega | (simp; omega)) | (simp; done) | (simp; omega)); have Bx := Lib.hid bx; obtain ⟨kx0, kx1, fx0, fx1, lx⟩ := blk2 bx; clear bx; have HB := Lib.hid hw; clear hw hb
        go_wp2_with fail
        refine (AS.out _).mono ?_
        rintro e w3 ⟨rfl, hb⟩
        have hw := bl_behind (w := w) hb (by have hb0 := HB.out; repeat (first | (with_reducible exact hb0) | (with_reducible refine below_drewN ?_ _) | (with_reducible refine Below.drew ?_) | (with_reducible refine bl_alloc ?_ _))); have bx := Blk.below (g := w1.heap.size) (t := 24) (cs := #[.int .i64 p, .int .i64 q]) (by repeat (first | (with_reducible exact Bx.out) | (with_reducible exact Blk.new _ _ _) | (with_reducible refine Blk.drewN ?_ _) | (with_reducible refine Blk.drew ?_) | (with_reducible refine Blk.alloc ?_ _))) hb (by first | (have := Bx.out.lt; first | omega | (simp; omega)) | (simp; done) | (simp; omega)); have Bx := Lib.hid bx; obtain ⟨kx0, kx1, fx0, fx1, lx⟩ := blk2 bx; clear bx; have HB := Lib.hid hw; clear hw hb
        go_wp2_with fail
        refine (FA.out _).mono ?_
        rintro e w4 ⟨rfl, hb⟩
        have hw := bl_behind (w := w) hb (by have hb0 := HB.out; repeat (first | (with_reducible exact hb0) | (with_reducible refine below_drewN ?_ _) | (with_reducible refine Below.drew ?_) | (with_reducible refine bl_alloc ?_ _))); have bx := Blk.below (g := w1.heap.size) (t := 24) (cs := #[.int .i64 p, .int .i64 q]) (by repeat (first | (with_reducible exact Bx.out) | (with_reducible exact Blk.new _ _ _) | (with_reducible refine Blk.drewN ?_ _) | (with_reducible refine Blk.drew ?_) | (with_reducible refine Blk.alloc ?_ _))) hb (by first | (have := Bx.out.lt; first | omega | (simp; omega)) | (simp; done) | (simp; omega)); have Bx := Lib.hid bx; obtain ⟨kx0, kx1, fx0, fx1, lx⟩ := blk2 bx; clear bx; have HB := Lib.hid hw; clear hw hb
        go_wp2_with (first | (go_at_call 8; refine (alive_any _).mono ?_; rintro e w' ⟨rfl, rfl⟩))
        go_ret
        have hb := HB.out
        exact ⟨rfl, (by repeat' (first | (with_reducible exact Below.refl _ _) | (with_reducible assumption) | (with_reducible refine below_drewN ?_ _) | (with_reducible refine Below.drew ?_) | (with_reducible refine bl_alloc ?_ _) | (with_reducible refine bl_set ?_ ?_ _) | go_size | omega))⟩
    · rw [ha] at FA
      rcases hbf : fitB p q b1
      · rw [hbf] at FBB
        clear ha hbf
        generalize adN p q a1 b1 = v at *
        generalize adOk p q a1 b1 = o at *
        cases o
        all_goals
          go_wp2_with fail
          refine (AI.out _).mono ?_
          rintro e w2 ⟨rfl, hb⟩
          have hw := bl_behind (w := w) hb (by have hb0 := HB.out; repeat (first | (with_reducible exact hb0) | (with_reducible refine below_drewN ?_ _) | (with_reducible refine Below.drew ?_) | (with_reducible refine bl_alloc ?_ _))); have bx := Blk.below (g := w1.heap.size) (t := 24) (cs := #[.int .i64 p, .int .i64 q]) (by repeat (first | (with_reducible exact Bx.out) | (with_reducible exact Blk.new _ _ _) | (with_reducible refine Blk.drewN ?_ _) | (with_reducible refine Blk.drew ?_) | (with_reducible refine Blk.alloc ?_ _))) hb (by first | (have := Bx.out.lt; first | omega | (simp; omega)) | (simp; done) | (simp; omega)); have Bx := Lib.hid bx; obtain ⟨kx0, kx1, fx0, fx1, lx⟩ := blk2 bx; clear bx; have HB := Lib.hid hw; clear hw hb
          go_wp2_with fail
          refine (AS.out _).mono ?_
          rintro e w3 ⟨rfl, hb⟩
          have hw := bl_behind (w := w) hb (by have hb0 := HB.out; repeat (first | (with_reducible exact hb0) | (with_reducible refine below_drewN ?_ _) | (with_reducible refine Below.drew ?_) | (with_reducible refine bl_alloc ?_ _))); have bx := Blk.below (g := w1.heap.size) (t := 24) (cs := #[.int .i64 p, .int .i64 q]) (by repeat (first | (with_reducible exact Bx.out) | (with_reducible exact Blk.new _ _ _) | (with_reducible refine Blk.drewN ?_ _) | (with_reducible refine Blk.drew ?_) | (with_reducible refine Blk.alloc ?_ _))) hb (by first | (have := Bx.out.lt; first | omega | (simp; omega)) | (simp; done) | (simp; omega)); have Bx := Lib.hid bx; obtain ⟨kx0, kx1, fx0, fx1, lx⟩ := blk2 bx; clear bx; have HB := Lib.hid hw; clear hw hb
          go_wp2_with fail
          refine (FA.out _).mono ?_
          rintro e w4 ⟨rfl, hb⟩
          have hw := bl_behind (w := w) hb (by have hb0 := HB.out; repeat (first | (with_reducible exact hb0) | (with_reducible refine below_drewN ?_ _) | (with_reducible refine Below.drew ?_) | (with_reducible refine bl_alloc ?_ _))); have bx := Blk.below (g := w1.heap.size) (t := 24) (cs := #[.int .i64 p, .int .i64 q]) (by repeat (first | (with_reducible exact Bx.out) | (with_reducible exact Blk.new _ _ _) | (with_reducible refine Blk.drewN ?_ _) | (with_reducible refine Blk.drew ?_) | (with_reducible refine Blk.alloc ?_ _))) hb (by first | (have := Bx.out.lt; first | omega | (simp; omega)) | (simp; done) | (simp; omega)); have Bx := Lib.hid bx; obtain ⟨kx0, kx1, fx0, fx1, lx⟩ := blk2 bx; clear bx; have HB := Lib.hid hw; clear hw hb
          go_wp2_with fail
          refine (FBB.out _).mono ?_
          rintro e w5 ⟨rfl, hb⟩
          have hw := bl_behind (w := w) hb (by have hb0 := HB.out; repeat (first | (with_reducible exact hb0) | (with_reducible refine below_drewN ?_ _) | (with_reducible refine Below.drew ?_) | (with_reducible refine bl_alloc ?_ _))); have bx := Blk.below (g := w1.heap.size) (t := 24) (cs := #[.int .i64 p, .int .i64 q]) (by repeat (first | (with_reducible exact Bx.out) | (with_reducible exact Blk.new _ _ _) | (with_reducible refine Blk.drewN ?_ _) | (with_reducible refine Blk.drew ?_) | (with_reducible refine Blk.alloc ?_ _))) hb (by first | (have := Bx.out.lt; first | omega | (simp; omega)) | (simp; done) | (simp; omega)); have Bx := Lib.hid bx; obtain ⟨kx0, kx1, fx0, fx1, lx⟩ := blk2 bx; clear bx; have HB := Lib.hid hw; clear hw hb
          go_wp2_with (first | (go_at_call 8; refine (alive_any _).mono ?_; rintro e w' ⟨rfl, rfl⟩))
          go_ret
          have hb := HB.out
          exact ⟨rfl, (by repeat' (first | (with_reducible exact Below.refl _ _) | (with_reducible assumption) | (with_reducible refine below_drewN ?_ _) | (with_reducible refine Below.drew ?_) | (with_reducible refine bl_alloc ?_ _) | (with_reducible refine bl_set ?_ ?_ _) | go_size | omega))⟩
      · rw [hbf] at FBB
        have hz := sText_size' p q b1
        have hz2 : (((⟨#[97, 100, 100, 32]⟩ : ByteArray) ++ sOf (sText p q b1)).size : Int) ≤ 100 := by rw [ByteArray.size_append]; have : (⟨#[97, 100, 100, 32]⟩ : ByteArray).size = 4 := rfl; omega
        obtain ⟨y1, y2⟩ := rs_yes hbf rfl
        have SB := Lib.hid (fun w' hT => st_impl p q b1 w' hT)
        have SV := Lib.hid (fun w' hT => st_impl p q (adN p q a1 b1) w' hT)
        have LN : Hid (∀ w', HT w' → w'.cell? ⟨0, 0, none⟩ = some (.int .i64 mx) → Calls Tryd.prog 9 #[.agg #[.int .i64 p, .int .i64 q, .int .i64 a1, .bool false], .string ((⟨#[97, 100, 100, 32]⟩ : ByteArray) ++ sOf (sText p q b1))] w' fun e w'' => e = .returned (.tuple #[.agg #[.int .i64 p, .int .i64 q, .int .i64 (adN p q a1 b1), .bool (false || !(adOk p q a1 b1))], .string (sOf (sText p q (adN p q a1 b1)))]) ∧ Below w'.heap.size w' w'') := Lib.hid (fun w' hT hm => line_add p q a1 b1 false _ w' ha (add_not [99, 108, 101, 97, 114] (by decide)) (add_not [99, 117, 116] (by decide)) hT (fun w'' hb => after_add p q a1 b1 false _ (sOf (sText p q b1)) mx w'' (hT.below hb) (cell0_below hm hb) (fun w3 h3 => cut_add _ mx w3 (by omega) h3) (fun w3 hT3 h3 => by have k := rds_impl p q (sOf (sText p q b1)) mx w3 hT3 (by omega) h3; rw [y1, y2] at k; exact k)))
        rw [Bool.false_or] at LN
        clear ha hbf y1 y2
        generalize sOf (sText p q b1) = t at *
        generalize sOf (sText p q (adN p q a1 b1)) = r at *
        generalize adN p q a1 b1 = v at *
        generalize adOk p q a1 b1 = o at *
        all_goals
          go_wp2_with fail
          refine (AI.out _).mono ?_
          rintro e w2 ⟨rfl, hb⟩
          have hw := bl_behind (w := w) hb (by have hb0 := HB.out; repeat (first | (with_reducible exact hb0) | (with_reducible refine below_drewN ?_ _) | (with_reducible refine Below.drew ?_) | (with_reducible refine bl_alloc ?_ _))); have bx := Blk.below (g := w1.heap.size) (t := 24) (cs := #[.int .i64 p, .int .i64 q]) (by repeat (first | (with_reducible exact Bx.out) | (with_reducible exact Blk.new _ _ _) | (with_reducible refine Blk.drewN ?_ _) | (with_reducible refine Blk.drew ?_) | (with_reducible refine Blk.alloc ?_ _))) hb (by first | (have := Bx.out.lt; first | omega | (simp; omega)) | (simp; done) | (simp; omega)); have Bx := Lib.hid bx; obtain ⟨kx0, kx1, fx0, fx1, lx⟩ := blk2 bx; clear bx; have HB := Lib.hid hw; clear hw hb
          go_wp2_with fail
          refine (AS.out _).mono ?_
          rintro e w3 ⟨rfl, hb⟩
          have hw := bl_behind (w := w) hb (by have hb0 := HB.out; repeat (first | (with_reducible exact hb0) | (with_reducible refine below_drewN ?_ _) | (with_reducible refine Below.drew ?_) | (with_reducible refine bl_alloc ?_ _))); have bx := Blk.below (g := w1.heap.size) (t := 24) (cs := #[.int .i64 p, .int .i64 q]) (by repeat (first | (with_reducible exact Bx.out) | (with_reducible exact Blk.new _ _ _) | (with_reducible refine Blk.drewN ?_ _) | (with_reducible refine Blk.drew ?_) | (with_reducible refine Blk.alloc ?_ _))) hb (by first | (have := Bx.out.lt; first | omega | (simp; omega)) | (simp; done) | (simp; omega)); have Bx := Lib.hid bx; obtain ⟨kx0, kx1, fx0, fx1, lx⟩ := blk2 bx; clear bx; have HB := Lib.hid hw; clear hw hb
          go_wp2_with fail
          refine (FA.out _).mono ?_
          rintro e w4 ⟨rfl, hb⟩
          have hw := bl_behind (w := w) hb (by have hb0 := HB.out; repeat (first | (with_reducible exact hb0) | (with_reducible refine below_drewN ?_ _) | (with_reducible refine Below.drew ?_) | (with_reducible refine bl_alloc ?_ _))); have bx := Blk.below (g := w1.heap.size) (t := 24) (cs := #[.int .i64 p, .int .i64 q]) (by repeat (first | (with_reducible exact Bx.out) | (with_reducible exact Blk.new _ _ _) | (with_reducible refine Blk.drewN ?_ _) | (with_reducible refine Blk.drew ?_) | (with_reducible refine Blk.alloc ?_ _))) hb (by first | (have := Bx.out.lt; first | omega | (simp; omega)) | (simp; done) | (simp; omega)); have Bx := Lib.hid bx; obtain ⟨kx0, kx1, fx0, fx1, lx⟩ := blk2 bx; clear bx; have HB := Lib.hid hw; clear hw hb
          go_wp2_with fail
          refine (FBB.out _).mono ?_
          rintro e w5 ⟨rfl, hb⟩
          have hw := bl_behind (w := w) hb (by have hb0 := HB.out; repeat (first | (with_reducible exact hb0) | (with_reducible refine below_drewN ?_ _) | (with_reducible refine Below.drew ?_) | (with_reducible refine bl_alloc ?_ _))); have bx := Blk.below (g := w1.heap.size) (t := 24) (cs := #[.int .i64 p, .int .i64 q]) (by repeat (first | (with_reducible exact Bx.out) | (with_reducible exact Blk.new _ _ _) | (with_reducible refine Blk.drewN ?_ _) | (with_reducible refine Blk.drew ?_) | (with_reducible refine Blk.alloc ?_ _))) hb (by first | (have := Bx.out.lt; first | omega | (simp; omega)) | (simp; done) | (simp; omega)); have Bx := Lib.hid bx; obtain ⟨kx0, kx1, fx0, fx1, lx⟩ := blk2 bx; clear bx; have HB := Lib.hid hw; clear hw hb
          clear AI AS FA FBB HROW
          go_wp2_with fail
          have HT1 : Hid (HT w5.drew) := Lib.hid (HTB.out.below (by have hb0 := HB.out; repeat (first | (with_reducible exact hb0) | (with_reducible refine below_drewN ?_ _) | (with_reducible refine Below.drew ?_) | (with_reducible refine bl_alloc ?_ _))))
          have HT2 : Hid (HT (w5.alloc (.cells #[.int .i64 0, .int .i64 0, .int .i64 0, .bool false] 32)).drew) := Lib.hid (HTB.out.below (by have hb0 := HB.out; repeat (first | (with_reducible exact hb0) | (with_reducible refine below_drewN ?_ _) | (with_reducible refine Below.drew ?_) | (with_reducible refine bl_alloc ?_ _))))
          have hgw : w.heap.size ≤ w5.heap.size := HB.out.size
          have hfw : w1.heap.size < w5.heap.size := Bx.out.lt
          go_cut [10, 11] (fun s u wx => CaCut w w1.heap.size p q v (!o) r s u wx)
          case first =>
            go_region_with
              (first
               | (go_at_call 10; with_reducible refine Calls.mono (SB.out w5.drew HT1.out) ?_; rintro e w6 ⟨rfl, hb⟩; replace hb := undrew hb; have hs6 := hb.size; have bx := Bx.out.below hb Bx.out.lt; have hbl := bl_behind hb HB.out; clear Bx HB hb; obtain ⟨kx0, kx1, fx0, fx1, lx⟩ := blk2 bx; have Bx := Lib.hid bx; have HB := Lib.hid hbl; clear bx hbl; have F1 := Lib.hid (HTB.out.below HB.out); have F2 := Lib.hid (HTB.out.below (bl_alloc HB.out (.cells #[.int .i64 0, .int .i64 0, .int .i64 0, .bool false] 32))))
               | (go_at_call 10; with_reducible refine Calls.mono (SB.out (w5.alloc (.cells #[.int .i64 0, .int .i64 0, .int .i64 0, .bool false] 32)).drew HT2.out) ?_; rintro e w6 ⟨rfl, hb⟩; replace hb := undrew hb; have bn := (Blk.new w5 32 #[.int .i64 0, .int .i64 0, .int .i64 0, .bool false]).below hb (by simp); have hs6 := hb.size; rw [World.size_alloc] at hs6; replace hb := unalloc hb; have bx := Bx.out.below hb Bx.out.lt; have hbl := bl_behind hb HB.out; have BN := Lib.hid bn; clear bn; clear Bx HB hb; obtain ⟨kx0, kx1, fx0, fx1, lx⟩ := blk2 bx; have Bx := Lib.hid bx; have HB := Lib.hid hbl; clear bx hbl; have F1 := Lib.hid (HTB.out.below HB.out))
               | (go_at_call 9; with_reducible refine Calls.mono (LN.out w6 F1.out (cell0_below HM.out HB.out)) ?_; rintro e w7 ⟨rfl, hb⟩; have hs7 := hb.size; have bx := Bx.out.below hb Bx.out.lt; have hbl := bl_behind hb HB.out; (try (have bn := BN.out.below hb BN.out.lt; clear BN; obtain ⟨d0, d1, d2, d3⟩ := blk4c bn; have e0 := bn.frozen 0; have e1 := bn.frozen 1; have e2 := bn.frozen 2; have e3 := bn.frozen 3; have BN := Lib.hid bn; clear bn)); clear Bx HB hb; obtain ⟨kx0, kx1, fx0, fx1, lx⟩ := blk2 bx; have Bx := Lib.hid bx; have HB := Lib.hid hbl; clear bx hbl)
               | (go_at_call 9; with_reducible refine Calls.mono (LN.out (w6.alloc (.cells #[.int .i64 0, .int .i64 0, .int .i64 0, .bool false] 32)) F2.out (cell0_below HM.out (bl_alloc HB.out _))) ?_; rintro e w7 ⟨rfl, hb⟩; have hs7 := hb.size; rw [World.size_alloc] at hs7; have bn := (Blk.new w6 32 #[.int .i64 0, .int .i64 0, .int .i64 0, .bool false]).below hb (by simp); obtain ⟨d0, d1, d2, d3⟩ := blk4c bn; have e0 := bn.frozen 0; have e1 := bn.frozen 1; have e2 := bn.frozen 2; have e3 := bn.frozen 3; replace hb := unalloc hb; have bx := Bx.out.below hb Bx.out.lt; have hbl := bl_behind hb HB.out; have BN := Lib.hid bn; clear bn; clear Bx HB hb; obtain ⟨kx0, kx1, fx0, fx1, lx⟩ := blk2 bx; have Bx := Lib.hid bx; have HB := Lib.hid hbl; clear bx hbl))
            all_goals go_wp2_with fail
            all_goals go_meet
            all_goals first | (with_reducible exact caCut_fin Bx.out HB.out) | (with_reducible exact caCut_mk BN.out Bx.out HB.out (by omega) (by omega))
          case rest =>
            obtain ⟨g, rfl, rfl, bk, bx, hb⟩ := hcut
            obtain ⟨d0, d1, d2, d3⟩ := blk4c bk
            obtain ⟨kx0, kx1, fx0, fx1, lx⟩ := blk2 bx
            have HB := Lib.hid hb
            have HT3 := Lib.hid (HTB.out.below HB.out)
            clear bk bx hb
            go_wp2_with (first | (go_at_call 10; refine (SV.out _ (HTB.out.below (by have hb0 := HB.out; repeat (first | (with_reducible exact hb0) | (with_reducible refine below_drewN ?_ _) | (with_reducible refine Below.drew ?_) | (with_reducible refine bl_alloc ?_ _))))).mono ?_; rintro e w8 ⟨rfl, hb⟩; have HB2 := Lib.hid (bl_behind hb HB.out); clear hb))
            go_ret
            exact ⟨rfl, HB2.out⟩

/-! THE ROW's STEP of FnCalculatorAdd: from the contract of the law's walk to the given statement. -/
namespace fnCalculatorAdd
set_option maxRecDepth 100000 in
theorem lifted (os : Os) (started : os.Started) (H : Type) (enc : TypeId × Value → H) :
    ReturnsInHanded {} Tryd.checked os 3 .any (fun w args => (Rows.fnCalculatorAddSpec.pre enc Tryd.prog Tryd.f3 [] false w args ∧ laidMetH Tryd.prog laidL w) ∧ sizedMet enc Tryd.prog Tryd.f3 (OpenSpec.ofChange Rows.fnCalculatorAddSpec) false w args) (Rows.fnCalculatorAddSpec.post enc Tryd.prog Tryd.f3 false true false false) := by
  refine card_of_shaped (C := Tryd.checked) (X := fun w _ => laidMetH Tryd.prog laidL w) (fun _ _ _ hh h => h.of_heap hh) own started (by kernel_rfl) Tryd.func3
    (ChangeSpec.witness_shaped (enc := enc) (C := Tryd.checked) (os := os) (X := fun w _ => laidMetH Tryd.prog laidL w) false (World.doorLaid Tryd.prog 400 os) #[.slice none 0 0] 8 rfl (World.shaped_of_RefB (by kernel_rfl) (by kernel_rfl)) (by kernel_rfl) (by kernel_rfl) (by kernel_rfl) (door_met os _)) ?_
  intro W base args ds gs before hval0 hW _ _ hL _
  have hval : ∀ (j : Nat) t v, Tryd.f3.params[j]? = some t → args[j]? = some v → Value.okWide Tryd.prog W .any base t v := hval0
  have hW' := hW
  obtain ⟨p, q, hA0, hV, rfl, hfz, hnd⟩ := hW
  have hA : DataW.TrodAll enc Tryd.prog W 0 (fun _ => true) true Tryd.f3.params.toList args.toList ds p := hA0
  rw [Tryd.params3] at hA hval
  obtain ⟨v0, vs0, d0, ds0, p0, q0, hargs, rfl, rfl, h0, r0⟩ := trodAll_cons hA
  obtain ⟨rfl, rfl, rfl⟩ := trodAll_nil r0
  obtain rfl : args = #[v0] := by cases args; simp_all
  obtain ⟨rfl, rfl⟩ := trodVars_none hV
  have k0 := h0
  have lt0 : ∀ x ∈ p0, x.block < W.heap.size := by obtain ⟨m, hm⟩ := k0; exact DataW.trod_lt m _ _ _ hm
  obtain ⟨a0, len0, cap0, rfl⟩ := okWide_slice Tryd.underlying22 (hval 0 22 v0 rfl rfl)
  obtain ⟨z0, w0⟩ : ∃ zs, IsRow .u8 W a0 len0 cap0 zs := by
    obtain ⟨fuel, hf⟩ := h0
    rcases open_ints Tryd.underlying22 Tryd.underlying5 (by kernel_rfl) hf with ⟨hcs, _⟩ | ⟨x, l, c, zs, hcs, _, hl, hm, hz, _, hcell, hwz⟩
    · simp [Value.cells] at hcs
      obtain ⟨rfl, rfl, rfl⟩ := hcs
      exact ⟨[], .inl ⟨rfl, rfl, rfl, rfl⟩⟩
    · simp [Value.cells] at hcs
      obtain ⟨rfl, rfl, rfl⟩ := hcs
      exact ⟨zs, .inr ⟨_, rfl, hl, hm, by simpa using hz, hcell, hwz, isRow_lt hcell⟩⟩
  clear hA0 hval0
  refine (walk W a0 len0 cap0 z0 w0 hL.1 hL.2).mono fun e W' ⟨he, bel⟩ => ?_
  subst he
  exact ⟨_, rfl, _, _, _, [], _, [], hW', trodAll_mk1 (shut_bool Tryd.underlying4 _), (trodAll_cons_mk (Below.trod laidOut (by kernel_rfl) (of_decide_eq_true (by kernel_rfl)) k0 bel lt0) trodAll_mk0), rfl, bel.frame _, fun h => by cases h⟩
end fnCalculatorAdd

theorem fnCalculatorAdd_row : Rows.FnCalculatorAddSaid :=
  OpenClaim.holds_of_wide 3 Tryd.f3 rfl rfl rfl rfl rfl rfl rfl ⟨rfl, rfl, rfl, rfl, rfl⟩ rfl rfl rfl rfl rfl (by kernel_rfl) Tryd.func3 (by kernel_rfl)
    (of_decide_eq_true (by kernel_rfl)) (by unfold Func.isWrapper; first | (rw [if_pos (by decide +kernel)]; kernel_rfl) | (rw [if_neg (by decide +kernel)]; exact ⟨rfl, rfl⟩))
    (fun os started H enc _ => fnCalculatorAdd.lifted os started H enc)
theorem fnCalculatorAdd_holds : Rows.FnCalculatorAddCardSaid :=
  Claim7.holds_tied_plain_at .later [] [.data, .data, .data] true _ false
    fnCalculatorAdd_row (fun _ h => by cases h) (by kernel_rfl) (fun _ h => by cases h) fnCalculatorAdd_row_tie rfl ⟨rfl, rfl⟩ (by kernel_rfl) rfl
    (fun f fn hf hfn => by
      obtain rfl : f = 3 := Option.some.inj ((show Tryd.prog.funcNamed "loop.example/fixedmath/laws.FnCalculatorAdd" = some 3 by kernel_rfl).symm.trans hf) |>.symm
      obtain rfl : fn = Tryd.f3 := (Option.some.inj (Tryd.func3.symm.trans hfn)).symm
      exact ⟨by kernel_rfl, fun j t ht => by
        rw [Tryd.params3] at ht
        have hm : t ∈ [22] := by simpa using Array.mem_of_getElem? ht
        have hall : ([22].all fun u => !Tryd.prog.wantsStandIn u) = true := by kernel_rfl
        exact (show Tryd.prog.wantsStandIn t = false by simpa using List.all_eq_true.1 hall t hm)⟩)
    (by kernel_rfl)
#print axioms fnCalculatorAdd_holds

end Go.Proofs.YtidnnnjjpjadlaaDoor
