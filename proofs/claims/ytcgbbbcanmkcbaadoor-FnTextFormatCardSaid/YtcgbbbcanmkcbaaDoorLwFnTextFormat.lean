/- A number brought into a wider format has the same text. No condition. -/
import Derived.Test.YtcgbbbcanmkcbaaDoorDrawTf
import Derived.Test.YtcgbbbcanmkcbaaDoorTf
import Derived.Test.YtcgbbbcanmkcbaaDoorCardS
import Derived.Test.YtcgbbbcanmkcbaaDoorAlive
namespace Go.Proofs.YtcgbbbcanmkcbaaDoor
open Go.ChangeShapes Go.WideShapes Go.ChangeAt Go.RowKit

attribute [local go_sem] alloc_drewN' setCell_drewN'
theorem tf_cut {p q p2 q2 n : Int} (h : fitB p q n = true) (h2 : fmtB p2 q2 = true) (hp : p ≤ p2) (hq : q ≤ q2) : cutV p2 q2 (tfV q q2 n) = n * 2 ^ (q2 - q).toNat ∧ tfV q q2 n = n * 2 ^ (q2 - q).toNat ∧ sText p2 q2 (n * 2 ^ (q2 - q).toNat) = sText p q n := by
  obtain ⟨⟨a1, a2, a3, a4⟩, a5, a6⟩ := fitB_mk h
  obtain ⟨c1, c2, c3, c4⟩ := fmtB_mk h2
  have e : tfV q q2 n = n * 2 ^ (q2 - q).toNat := by unfold tfV; rw [if_pos hq]
  have hd := two_pow_pos (q2 - q).toNat
  have e2 : pw p q * 2 ^ (q2 - q).toNat ≤ pw p2 q2 := by
    unfold pw
    rw [← Int.pow_add, show (p2 + q2).toNat = ((p + q).toNat + (q2 - q).toNat) + (p2 - p).toNat by omega, Int.pow_add 2 ((p + q).toNat + (q2 - q).toNat)]
    have k1 := two_pow_pos (p2 - p).toNat
    have k2 := two_pow_pos ((p + q).toNat + (q2 - q).toNat)
    have := Int.mul_le_mul_of_nonneg_left (show 1 ≤ (2 : Int) ^ (p2 - p).toNat by omega) (show 0 ≤ (2 : Int) ^ ((p + q).toNat + (q2 - q).toNat) by omega)
    omega
  have k1 := Int.mul_le_mul_of_nonneg_right a5 (show 0 ≤ (2 : Int) ^ (q2 - q).toNat by omega)
  have k2 := Int.mul_le_mul_of_nonneg_right (show n + 1 ≤ pw p q by omega) (show 0 ≤ (2 : Int) ^ (q2 - q).toNat by omega)
  rw [Int.neg_mul] at k1
  rw [Int.add_mul] at k2
  have m1 : -pw p2 q2 ≤ n * 2 ^ (q2 - q).toNat := by omega
  have m2 : n * 2 ^ (q2 - q).toNat ≤ pw p2 q2 - 1 := by omega
  refine ⟨?_, e, ?_⟩
  · rw [e]; unfold cutV; omega
  · have hf : fitB p2 q2 (n * 2 ^ (q2 - q).toNat) = true := by unfold fitB; exact decide_eq_true ⟨⟨c1, c2, c3, c4⟩, m1, m2⟩
    have eq : q2 = q + ((q2 - q).toNat : Int) := by omega
    have := sText_fine (p := p) (q := q) (n := n) (p' := p2) (d := (q2 - q).toNat) h (by rw [← eq]; exact hf)
    rw [← eq] at this
    exact this
structure InG (w : World) (g : Nat) (p q p2 q2 : Int) (w' : World) : Prop where
  bel : Below w.heap.size w w'
  a : Blk w' g 25 #[.int .i64 p, .int .i64 q]
  b : Blk w' (g + 1) 25 #[.int .i64 p2, .int .i64 q2]
theorem InG.below {w w1 w2 : World} {g : Nat} {p q p2 q2 : Int} (h : InG w g p q p2 q2 w1) (hb : Below w1.heap.size w1 w2) : InG w g p q p2 q2 w2 := ⟨bl_behind hb h.bel, h.a.below hb h.a.lt, h.b.below hb h.b.lt⟩
theorem InG.drew {w w1 : World} {g : Nat} {p q p2 q2 : Int} (h : InG w g p q p2 q2 w1) : InG w g p q p2 q2 { w1 with drawn := w1.drawn + 1 } := ⟨h.bel.drew, h.a.drew, h.b.drew⟩
set_option maxRecDepth 100000 in
set_option maxHeartbeats 16000000 in
theorem fnTextFormat.walk (w : World) (a : Option Addr) (len cap : Nat) (zs : List Int) (hrow : IsRow .u8 w a len cap zs) (hL : laidMetH Tryd.prog laidL w) (_ : w.ShapedOpen Tryd.prog) :
    Calls Tryd.prog 11 #[.slice a len cap] w fun e w' => e = .returned (.bool true) ∧ Below w.heap.size w w' := by
  obtain ⟨hl1, hl2, -⟩ := code_of_row hrow
  have hm : (len : Int) ≤ 9223372036854775807 := by unfold maxLen at hl2; omega
  by_cases hbig : (1048576 : Int) < (len : Int)
  · clear hrow hl1 hl2
    go_enter Tryd.func11, Tryd.ntmps11
    go_wp2
    go_ret
    exact ⟨rfl, Below.refl _ _⟩
  · have HTB := Lib.hid (ht_of_laid hL)
    have HB := Lib.hid (Below.refl w.heap.size w)
    have HROW := Lib.hid hrow
    clear hl1 hl2 hrow
    go_enter Tryd.func11, Tryd.ntmps11
    go_wp2_with fail
    refine (drawtoformat_any HROW.out).mono ?_
    rintro e w1 ⟨n, p, q, p2, q2, ⟨n0, n1⟩, ⟨⟨p0, p1⟩, ⟨q0, q1⟩⟩, ⟨⟨p20, p21⟩, ⟨q20, q21⟩⟩, rfl, hb⟩
    (repeat (first | (replace hb := undrewN hb) | (replace hb := undrew hb))); (repeat (first | (replace hb := undrewN hb) | (replace hb := undrew hb) | (replace hb := unalloc hb))); have HB := Lib.hid (HB.out.trans (hb.mono HB.out.size)); clear hb
    have Bx := Lib.hid ((Blk.new w1 25 #[.int .i64 p, .int .i64 q]).alloc (.cells #[.int .i64 p2, .int .i64 q2] 25))
    have Bz : Hid (Blk ((w1.alloc (.cells #[.int .i64 p, .int .i64 q] 25)).alloc (.cells #[.int .i64 p2, .int .i64 q2] 25)) (w1.heap.size + 1) 25 #[.int .i64 p2, .int .i64 q2]) := Lib.hid (Blk.newAt (by simp))
    have hFS := Lib.hid (fun w' => fits_spec p q n w')
    rcases h2 : fmtB p2 q2
    · have hv := Lib.hid h2
      have TI := Lib.hid (fun w' => tfm_impl_out p q p2 q2 n w' (.inr h2))
      have TS := Lib.hid (fun w' => tfm_spec_out p q p2 q2 n w' (.inr h2))
      clear h2
      go_wp2_with fail
      refine (TI.out _).mono ?_
      rintro e w2 ⟨rfl, hb⟩
      have hw := bl_behind (w := w) hb (by have hb0 := HB.out; repeat (first | (with_reducible exact hb0) | (with_reducible refine below_drewN ?_ _) | (with_reducible refine Below.drew ?_) | (with_reducible refine bl_alloc ?_ _))); have bx := Blk.below (g := w1.heap.size) (t := 25) (cs := #[.int .i64 p, .int .i64 q]) (by repeat (first | (with_reducible exact Bx.out) | (with_reducible exact Blk.new _ _ _) | (with_reducible refine Blk.drewN ?_ _) | (with_reducible refine Blk.drew ?_) | (with_reducible refine Blk.alloc ?_ _))) hb (by first | (have := Bx.out.lt; first | omega | (simp; omega)) | (simp; done) | (simp; omega)); have Bx := Lib.hid bx; obtain ⟨kx0, kx1, fx0, fx1, lx⟩ := blk2 bx; clear bx; have bz := Blk.below (g := (w1.heap.size + 1)) (t := 25) (cs := #[.int .i64 p2, .int .i64 q2]) (by repeat (first | (with_reducible exact Bz.out) | (with_reducible exact Blk.new _ _ _) | (with_reducible refine Blk.drewN ?_ _) | (with_reducible refine Blk.drew ?_) | (with_reducible refine Blk.alloc ?_ _))) hb (by first | (have := Bz.out.lt; first | omega | (simp; omega)) | (simp; done) | (simp; omega)); have Bz := Lib.hid bz; obtain ⟨kz0, kz1, fz0, fz1, lz⟩ := blk2 bz; clear bz; have HB := Lib.hid hw; clear hw hb
      go_wp2_with fail
      refine (TS.out _).mono ?_
      rintro e w3 ⟨rfl, hb⟩
      have hw := bl_behind (w := w) hb (by have hb0 := HB.out; repeat (first | (with_reducible exact hb0) | (with_reducible refine below_drewN ?_ _) | (with_reducible refine Below.drew ?_) | (with_reducible refine bl_alloc ?_ _))); have bx := Blk.below (g := w1.heap.size) (t := 25) (cs := #[.int .i64 p, .int .i64 q]) (by repeat (first | (with_reducible exact Bx.out) | (with_reducible exact Blk.new _ _ _) | (with_reducible refine Blk.drewN ?_ _) | (with_reducible refine Blk.drew ?_) | (with_reducible refine Blk.alloc ?_ _))) hb (by first | (have := Bx.out.lt; first | omega | (simp; omega)) | (simp; done) | (simp; omega)); have Bx := Lib.hid bx; obtain ⟨kx0, kx1, fx0, fx1, lx⟩ := blk2 bx; clear bx; have bz := Blk.below (g := (w1.heap.size + 1)) (t := 25) (cs := #[.int .i64 p2, .int .i64 q2]) (by repeat (first | (with_reducible exact Bz.out) | (with_reducible exact Blk.new _ _ _) | (with_reducible refine Blk.drewN ?_ _) | (with_reducible refine Blk.drew ?_) | (with_reducible refine Blk.alloc ?_ _))) hb (by first | (have := Bz.out.lt; first | omega | (simp; omega)) | (simp; done) | (simp; omega)); have Bz := Lib.hid bz; obtain ⟨kz0, kz1, fz0, fz1, lz⟩ := blk2 bz; clear bz; have HB := Lib.hid hw; clear hw hb
      go_wp2_with (first | (go_at_call 16; refine (fmvb_spec hv.out _).mono ?_; rintro e w' ⟨rfl, mm, rfl⟩) | (go_at_call 17; refine (alive_any _).mono ?_; rintro e w' ⟨rfl, rfl⟩))
      go_ret
      have hb := HB.out
      exact ⟨rfl, (by repeat' (first | (with_reducible exact Below.refl _ _) | (with_reducible assumption) | (with_reducible refine below_drewN ?_ _) | (with_reducible refine Below.drew ?_) | (with_reducible refine bl_alloc ?_ _) | (with_reducible refine bl_set ?_ ?_ _) | go_size | omega))⟩
    · have hv := Lib.hid h2
      rcases h1 : fitB p q n
      · have TI := Lib.hid (fun w' => tfm_impl_out p q p2 q2 n w' (.inl h1))
        have TS := Lib.hid (fun w' => tfm_spec_out p q p2 q2 n w' (.inl h1))
        rw [h1] at hFS
        clear h1 h2
        go_wp2_with fail
        refine (TI.out _).mono ?_
        rintro e w2 ⟨rfl, hb⟩
        have hw := bl_behind (w := w) hb (by have hb0 := HB.out; repeat (first | (with_reducible exact hb0) | (with_reducible refine below_drewN ?_ _) | (with_reducible refine Below.drew ?_) | (with_reducible refine bl_alloc ?_ _))); have bx := Blk.below (g := w1.heap.size) (t := 25) (cs := #[.int .i64 p, .int .i64 q]) (by repeat (first | (with_reducible exact Bx.out) | (with_reducible exact Blk.new _ _ _) | (with_reducible refine Blk.drewN ?_ _) | (with_reducible refine Blk.drew ?_) | (with_reducible refine Blk.alloc ?_ _))) hb (by first | (have := Bx.out.lt; first | omega | (simp; omega)) | (simp; done) | (simp; omega)); have Bx := Lib.hid bx; obtain ⟨kx0, kx1, fx0, fx1, lx⟩ := blk2 bx; clear bx; have bz := Blk.below (g := (w1.heap.size + 1)) (t := 25) (cs := #[.int .i64 p2, .int .i64 q2]) (by repeat (first | (with_reducible exact Bz.out) | (with_reducible exact Blk.new _ _ _) | (with_reducible refine Blk.drewN ?_ _) | (with_reducible refine Blk.drew ?_) | (with_reducible refine Blk.alloc ?_ _))) hb (by first | (have := Bz.out.lt; first | omega | (simp; omega)) | (simp; done) | (simp; omega)); have Bz := Lib.hid bz; obtain ⟨kz0, kz1, fz0, fz1, lz⟩ := blk2 bz; clear bz; have HB := Lib.hid hw; clear hw hb
        go_wp2_with fail
        refine (TS.out _).mono ?_
        rintro e w3 ⟨rfl, hb⟩
        have hw := bl_behind (w := w) hb (by have hb0 := HB.out; repeat (first | (with_reducible exact hb0) | (with_reducible refine below_drewN ?_ _) | (with_reducible refine Below.drew ?_) | (with_reducible refine bl_alloc ?_ _))); have bx := Blk.below (g := w1.heap.size) (t := 25) (cs := #[.int .i64 p, .int .i64 q]) (by repeat (first | (with_reducible exact Bx.out) | (with_reducible exact Blk.new _ _ _) | (with_reducible refine Blk.drewN ?_ _) | (with_reducible refine Blk.drew ?_) | (with_reducible refine Blk.alloc ?_ _))) hb (by first | (have := Bx.out.lt; first | omega | (simp; omega)) | (simp; done) | (simp; omega)); have Bx := Lib.hid bx; obtain ⟨kx0, kx1, fx0, fx1, lx⟩ := blk2 bx; clear bx; have bz := Blk.below (g := (w1.heap.size + 1)) (t := 25) (cs := #[.int .i64 p2, .int .i64 q2]) (by repeat (first | (with_reducible exact Bz.out) | (with_reducible exact Blk.new _ _ _) | (with_reducible refine Blk.drewN ?_ _) | (with_reducible refine Blk.drew ?_) | (with_reducible refine Blk.alloc ?_ _))) hb (by first | (have := Bz.out.lt; first | omega | (simp; omega)) | (simp; done) | (simp; omega)); have Bz := Lib.hid bz; obtain ⟨kz0, kz1, fz0, fz1, lz⟩ := blk2 bz; clear bz; have HB := Lib.hid hw; clear hw hb
        go_wp2_with (first | (go_at_call 16; refine (fmvb_spec hv.out _).mono ?_; rintro e w' ⟨rfl, mm, rfl⟩))
        refine (hFS.out _).mono ?_
        rintro e w4 ⟨rfl, hb⟩
        have hw := bl_behind (w := w) hb (by have hb0 := HB.out; repeat (first | (with_reducible exact hb0) | (with_reducible refine below_drewN ?_ _) | (with_reducible refine Below.drew ?_) | (with_reducible refine bl_alloc ?_ _))); have bx := Blk.below (g := w1.heap.size) (t := 25) (cs := #[.int .i64 p, .int .i64 q]) (by repeat (first | (with_reducible exact Bx.out) | (with_reducible exact Blk.new _ _ _) | (with_reducible refine Blk.drewN ?_ _) | (with_reducible refine Blk.drew ?_) | (with_reducible refine Blk.alloc ?_ _))) hb (by first | (have := Bx.out.lt; first | omega | (simp; omega)) | (simp; done) | (simp; omega)); have Bx := Lib.hid bx; obtain ⟨kx0, kx1, fx0, fx1, lx⟩ := blk2 bx; clear bx; have bz := Blk.below (g := (w1.heap.size + 1)) (t := 25) (cs := #[.int .i64 p2, .int .i64 q2]) (by repeat (first | (with_reducible exact Bz.out) | (with_reducible exact Blk.new _ _ _) | (with_reducible refine Blk.drewN ?_ _) | (with_reducible refine Blk.drew ?_) | (with_reducible refine Blk.alloc ?_ _))) hb (by first | (have := Bz.out.lt; first | omega | (simp; omega)) | (simp; done) | (simp; omega)); have Bz := Lib.hid bz; obtain ⟨kz0, kz1, fz0, fz1, lz⟩ := blk2 bz; clear bz; have HB := Lib.hid hw; clear hw hb
        go_wp2_with (first | (go_at_call 16; refine (fmvb_spec hv.out _).mono ?_; rintro e w' ⟨rfl, mm, rfl⟩) | (go_at_call 17; refine (alive_any _).mono ?_; rintro e w' ⟨rfl, rfl⟩))
        go_ret
        have hb := HB.out
        exact ⟨rfl, (by repeat' (first | (with_reducible exact Below.refl _ _) | (with_reducible assumption) | (with_reducible refine below_drewN ?_ _) | (with_reducible refine Below.drew ?_) | (with_reducible refine bl_alloc ?_ _) | (with_reducible refine bl_set ?_ ?_ _) | go_size | omega))⟩
      · obtain ⟨g1, g2, g3, g4⟩ := fmtB_mk h2
        have TI := Lib.hid (fun w' => tfm_impl_in p q p2 q2 n w' h1 g1 g2 g3 g4)
        have TS := Lib.hid (fun w' => tfm_spec_in p q p2 q2 n w' h1 g1 g2 g3 g4)
        rw [h1] at hFS
        rcases (by omega : (p ≤ p2 ∧ q ≤ q2) ∨ p2 < p ∨ (p ≤ p2 ∧ q2 < q)) with ⟨hp, hq⟩ | hh
        · obtain ⟨e1, e2, e3⟩ := tf_cut h1 h2 hp hq
          rw [e1, e2, show (n * 2 ^ (q2 - q).toNat == n * 2 ^ (q2 - q).toNat) = true by simp] at TI TS
          have SI := Lib.hid (fun w' hT => st_impl p q n w' hT)
          have UI := Lib.hid (fun w' hT => st_impl p2 q2 (n * 2 ^ (q2 - q).toNat) w' hT)
          rw [e3] at UI
          clear e1 e2 e3 h1 h2
          generalize n * 2 ^ (q2 - q).toNat = x at *
          generalize sOf (sText p q n) = s at *
          go_wp2_with fail
          refine (TI.out _).mono ?_
          rintro e w2 ⟨rfl, hb⟩
          have hw := bl_behind (w := w) hb (by have hb0 := HB.out; repeat (first | (with_reducible exact hb0) | (with_reducible refine below_drewN ?_ _) | (with_reducible refine Below.drew ?_) | (with_reducible refine bl_alloc ?_ _))); have bx := Blk.below (g := w1.heap.size) (t := 25) (cs := #[.int .i64 p, .int .i64 q]) (by repeat (first | (with_reducible exact Bx.out) | (with_reducible exact Blk.new _ _ _) | (with_reducible refine Blk.drewN ?_ _) | (with_reducible refine Blk.drew ?_) | (with_reducible refine Blk.alloc ?_ _))) hb (by first | (have := Bx.out.lt; first | omega | (simp; omega)) | (simp; done) | (simp; omega)); have Bx := Lib.hid bx; obtain ⟨kx0, kx1, fx0, fx1, lx⟩ := blk2 bx; clear bx; have bz := Blk.below (g := (w1.heap.size + 1)) (t := 25) (cs := #[.int .i64 p2, .int .i64 q2]) (by repeat (first | (with_reducible exact Bz.out) | (with_reducible exact Blk.new _ _ _) | (with_reducible refine Blk.drewN ?_ _) | (with_reducible refine Blk.drew ?_) | (with_reducible refine Blk.alloc ?_ _))) hb (by first | (have := Bz.out.lt; first | omega | (simp; omega)) | (simp; done) | (simp; omega)); have Bz := Lib.hid bz; obtain ⟨kz0, kz1, fz0, fz1, lz⟩ := blk2 bz; clear bz; have HB := Lib.hid hw; clear hw hb
          go_wp2_with fail
          refine (TS.out _).mono ?_
          rintro e w3 ⟨rfl, hb⟩
          have hw := bl_behind (w := w) hb (by have hb0 := HB.out; repeat (first | (with_reducible exact hb0) | (with_reducible refine below_drewN ?_ _) | (with_reducible refine Below.drew ?_) | (with_reducible refine bl_alloc ?_ _))); have bx := Blk.below (g := w1.heap.size) (t := 25) (cs := #[.int .i64 p, .int .i64 q]) (by repeat (first | (with_reducible exact Bx.out) | (with_reducible exact Blk.new _ _ _) | (with_reducible refine Blk.drewN ?_ _) | (with_reducible refine Blk.drew ?_) | (with_reducible refine Blk.alloc ?_ _))) hb (by first | (have := Bx.out.lt; first | omega | (simp; omega)) | (simp; done) | (simp; omega)); have Bx := Lib.hid bx; obtain ⟨kx0, kx1, fx0, fx1, lx⟩ := blk2 bx; clear bx; have bz := Blk.below (g := (w1.heap.size + 1)) (t := 25) (cs := #[.int .i64 p2, .int .i64 q2]) (by repeat (first | (with_reducible exact Bz.out) | (with_reducible exact Blk.new _ _ _) | (with_reducible refine Blk.drewN ?_ _) | (with_reducible refine Blk.drew ?_) | (with_reducible refine Blk.alloc ?_ _))) hb (by first | (have := Bz.out.lt; first | omega | (simp; omega)) | (simp; done) | (simp; omega)); have Bz := Lib.hid bz; obtain ⟨kz0, kz1, fz0, fz1, lz⟩ := blk2 bz; clear bz; have HB := Lib.hid hw; clear hw hb
          go_wp2_with (first | (go_at_call 16; refine (fmvb_spec hv.out _).mono ?_; rintro e w' ⟨rfl, mm, rfl⟩))
          refine (hFS.out _).mono ?_
          rintro e w4 ⟨rfl, hb⟩
          have hw := bl_behind (w := w) hb (by have hb0 := HB.out; repeat (first | (with_reducible exact hb0) | (with_reducible refine below_drewN ?_ _) | (with_reducible refine Below.drew ?_) | (with_reducible refine bl_alloc ?_ _))); have bx := Blk.below (g := w1.heap.size) (t := 25) (cs := #[.int .i64 p, .int .i64 q]) (by repeat (first | (with_reducible exact Bx.out) | (with_reducible exact Blk.new _ _ _) | (with_reducible refine Blk.drewN ?_ _) | (with_reducible refine Blk.drew ?_) | (with_reducible refine Blk.alloc ?_ _))) hb (by first | (have := Bx.out.lt; first | omega | (simp; omega)) | (simp; done) | (simp; omega)); have Bx := Lib.hid bx; obtain ⟨kx0, kx1, fx0, fx1, lx⟩ := blk2 bx; clear bx; have bz := Blk.below (g := (w1.heap.size + 1)) (t := 25) (cs := #[.int .i64 p2, .int .i64 q2]) (by repeat (first | (with_reducible exact Bz.out) | (with_reducible exact Blk.new _ _ _) | (with_reducible refine Blk.drewN ?_ _) | (with_reducible refine Blk.drew ?_) | (with_reducible refine Blk.alloc ?_ _))) hb (by first | (have := Bz.out.lt; first | omega | (simp; omega)) | (simp; done) | (simp; omega)); have Bz := Lib.hid bz; obtain ⟨kz0, kz1, fz0, fz1, lz⟩ := blk2 bz; clear bz; have HB := Lib.hid hw; clear hw hb
          go_wp2_with fail
          have TI := UI
          clear UI
          have hC : InG w w1.heap.size p q p2 q2 _ := ⟨HB.out, Bx.out, Bz.out⟩
          refine wp_region_quietC (C := InG w w1.heap.size p q p2 q2) (by kernel_rfl) (by kernel_rfl) (hC.drew) ?_
          repeat
            (refine wpQuiet_step (fun K hK => ?_)
             go_simp
             first
               | (refine hK _ ?_; clear hK K)
               | (apply Exists.intro
                  refine ⟨fun w' hw' => ?_, hK _ ?_⟩
                  first
                    | (obtain ⟨c0, c1, -, -, lz⟩ := blk2 hw'.a; obtain ⟨d0, d1, -, -, ld⟩ := blk2 hw'.b; go_simp; rfl)
                    | (go_at_call 20; with_reducible refine Calls.mono (SI.out _ (HTB.out.below hw'.bel)) ?_; rintro e w2 ⟨rfl, hb2⟩; exact ⟨rfl, hw'.below hb2⟩)
                    | (go_at_call 20; with_reducible refine Calls.mono (TI.out _ (HTB.out.below hw'.bel)) ?_; rintro e w2 ⟨rfl, hb2⟩; exact ⟨rfl, hw'.below hb2⟩)
                  clear hK K))
          refine wpQuiet_nil ?_
          intro w5 hw5
          go_wp2_with fail
          go_ret
          exact ⟨rfl, hw5.bel⟩
        · clear h1 h2
          generalize (cutV p2 q2 (tfV q q2 n) == tfV q q2 n) = o at *
          generalize cutV p2 q2 (tfV q q2 n) = x at *
          cases o
          all_goals rcases hh with hp | ⟨hp, hq⟩
          all_goals
            go_wp2_with fail
            refine (TI.out _).mono ?_
            rintro e w2 ⟨rfl, hb⟩
            have hw := bl_behind (w := w) hb (by have hb0 := HB.out; repeat (first | (with_reducible exact hb0) | (with_reducible refine below_drewN ?_ _) | (with_reducible refine Below.drew ?_) | (with_reducible refine bl_alloc ?_ _))); have bx := Blk.below (g := w1.heap.size) (t := 25) (cs := #[.int .i64 p, .int .i64 q]) (by repeat (first | (with_reducible exact Bx.out) | (with_reducible exact Blk.new _ _ _) | (with_reducible refine Blk.drewN ?_ _) | (with_reducible refine Blk.drew ?_) | (with_reducible refine Blk.alloc ?_ _))) hb (by first | (have := Bx.out.lt; first | omega | (simp; omega)) | (simp; done) | (simp; omega)); have Bx := Lib.hid bx; obtain ⟨kx0, kx1, fx0, fx1, lx⟩ := blk2 bx; clear bx; have bz := Blk.below (g := (w1.heap.size + 1)) (t := 25) (cs := #[.int .i64 p2, .int .i64 q2]) (by repeat (first | (with_reducible exact Bz.out) | (with_reducible exact Blk.new _ _ _) | (with_reducible refine Blk.drewN ?_ _) | (with_reducible refine Blk.drew ?_) | (with_reducible refine Blk.alloc ?_ _))) hb (by first | (have := Bz.out.lt; first | omega | (simp; omega)) | (simp; done) | (simp; omega)); have Bz := Lib.hid bz; obtain ⟨kz0, kz1, fz0, fz1, lz⟩ := blk2 bz; clear bz; have HB := Lib.hid hw; clear hw hb
            go_wp2_with fail
            refine (TS.out _).mono ?_
            rintro e w3 ⟨rfl, hb⟩
            have hw := bl_behind (w := w) hb (by have hb0 := HB.out; repeat (first | (with_reducible exact hb0) | (with_reducible refine below_drewN ?_ _) | (with_reducible refine Below.drew ?_) | (with_reducible refine bl_alloc ?_ _))); have bx := Blk.below (g := w1.heap.size) (t := 25) (cs := #[.int .i64 p, .int .i64 q]) (by repeat (first | (with_reducible exact Bx.out) | (with_reducible exact Blk.new _ _ _) | (with_reducible refine Blk.drewN ?_ _) | (with_reducible refine Blk.drew ?_) | (with_reducible refine Blk.alloc ?_ _))) hb (by first | (have := Bx.out.lt; first | omega | (simp; omega)) | (simp; done) | (simp; omega)); have Bx := Lib.hid bx; obtain ⟨kx0, kx1, fx0, fx1, lx⟩ := blk2 bx; clear bx; have bz := Blk.below (g := (w1.heap.size + 1)) (t := 25) (cs := #[.int .i64 p2, .int .i64 q2]) (by repeat (first | (with_reducible exact Bz.out) | (with_reducible exact Blk.new _ _ _) | (with_reducible refine Blk.drewN ?_ _) | (with_reducible refine Blk.drew ?_) | (with_reducible refine Blk.alloc ?_ _))) hb (by first | (have := Bz.out.lt; first | omega | (simp; omega)) | (simp; done) | (simp; omega)); have Bz := Lib.hid bz; obtain ⟨kz0, kz1, fz0, fz1, lz⟩ := blk2 bz; clear bz; have HB := Lib.hid hw; clear hw hb
            go_wp2_with (first | (go_at_call 16; refine (fmvb_spec hv.out _).mono ?_; rintro e w' ⟨rfl, mm, rfl⟩))
            refine (hFS.out _).mono ?_
            rintro e w4 ⟨rfl, hb⟩
            have hw := bl_behind (w := w) hb (by have hb0 := HB.out; repeat (first | (with_reducible exact hb0) | (with_reducible refine below_drewN ?_ _) | (with_reducible refine Below.drew ?_) | (with_reducible refine bl_alloc ?_ _))); have bx := Blk.below (g := w1.heap.size) (t := 25) (cs := #[.int .i64 p, .int .i64 q]) (by repeat (first | (with_reducible exact Bx.out) | (with_reducible exact Blk.new _ _ _) | (with_reducible refine Blk.drewN ?_ _) | (with_reducible refine Blk.drew ?_) | (with_reducible refine Blk.alloc ?_ _))) hb (by first | (have := Bx.out.lt; first | omega | (simp; omega)) | (simp; done) | (simp; omega)); have Bx := Lib.hid bx; obtain ⟨kx0, kx1, fx0, fx1, lx⟩ := blk2 bx; clear bx; have bz := Blk.below (g := (w1.heap.size + 1)) (t := 25) (cs := #[.int .i64 p2, .int .i64 q2]) (by repeat (first | (with_reducible exact Bz.out) | (with_reducible exact Blk.new _ _ _) | (with_reducible refine Blk.drewN ?_ _) | (with_reducible refine Blk.drew ?_) | (with_reducible refine Blk.alloc ?_ _))) hb (by first | (have := Bz.out.lt; first | omega | (simp; omega)) | (simp; done) | (simp; omega)); have Bz := Lib.hid bz; obtain ⟨kz0, kz1, fz0, fz1, lz⟩ := blk2 bz; clear bz; have HB := Lib.hid hw; clear hw hb
            go_wp2_with (first | (go_at_call 16; refine (fmvb_spec hv.out _).mono ?_; rintro e w' ⟨rfl, mm, rfl⟩) | (go_at_call 17; refine (alive_any _).mono ?_; rintro e w' ⟨rfl, rfl⟩))
            go_ret
            have hb := HB.out
            exact ⟨rfl, (by repeat' (first | (with_reducible exact Below.refl _ _) | (with_reducible assumption) | (with_reducible refine below_drewN ?_ _) | (with_reducible refine Below.drew ?_) | (with_reducible refine bl_alloc ?_ _) | (with_reducible refine bl_set ?_ ?_ _) | go_size | omega))⟩

/-! THE ROW's STEP of FnTextFormat: from the contract of the law's walk to the given statement. -/
namespace fnTextFormat
set_option maxRecDepth 100000 in
theorem lifted (os : Os) (started : os.Started) (H : Type) (enc : TypeId × Value → H) :
    ReturnsInHanded {} Tryd.checked os 11 .any (fun w args => (Rows.fnTextFormatSpec.pre enc Tryd.prog Tryd.f11 [] false w args ∧ laidMetH Tryd.prog laidL w) ∧ sizedMet enc Tryd.prog Tryd.f11 (OpenSpec.ofChange Rows.fnTextFormatSpec) false w args) (Rows.fnTextFormatSpec.post enc Tryd.prog Tryd.f11 false true false false) := by
  refine card_of_shaped (C := Tryd.checked) (X := fun w _ => laidMetH Tryd.prog laidL w) (fun _ _ _ hh h => h.of_heap hh) own started (by kernel_rfl) Tryd.func11
    (ChangeSpec.witness_shaped (enc := enc) (C := Tryd.checked) (os := os) (X := fun w _ => laidMetH Tryd.prog laidL w) false (World.doorLaid Tryd.prog 400 os) #[.slice none 0 0] 8 rfl (World.shaped_of_RefB (by kernel_rfl) (by kernel_rfl)) (by kernel_rfl) (by kernel_rfl) (by kernel_rfl) (door_met os _)) ?_
  intro W base args ds gs before hval0 hW _ _ hL _
  have hval : ∀ (j : Nat) t v, Tryd.f11.params[j]? = some t → args[j]? = some v → Value.okWide Tryd.prog W .any base t v := hval0
  have hW' := hW
  obtain ⟨p, q, hA0, hV, rfl, hfz, hnd⟩ := hW
  have hA : DataW.TrodAll enc Tryd.prog W 0 (fun _ => true) true Tryd.f11.params.toList args.toList ds p := hA0
  rw [Tryd.params11] at hA hval
  obtain ⟨v0, vs0, d0, ds0, p0, q0, hargs, rfl, rfl, h0, r0⟩ := trodAll_cons hA
  obtain ⟨rfl, rfl, rfl⟩ := trodAll_nil r0
  obtain rfl : args = #[v0] := by cases args; simp_all
  obtain ⟨rfl, rfl⟩ := trodVars_none hV
  have k0 := h0
  have lt0 : ∀ x ∈ p0, x.block < W.heap.size := by obtain ⟨m, hm⟩ := k0; exact DataW.trod_lt m _ _ _ hm
  obtain ⟨a0, len0, cap0, rfl⟩ := okWide_slice Tryd.underlying28 (hval 0 28 v0 rfl rfl)
  obtain ⟨z0, w0⟩ : ∃ zs, IsRow .u8 W a0 len0 cap0 zs := by
    obtain ⟨fuel, hf⟩ := h0
    rcases open_ints Tryd.underlying28 Tryd.underlying5 (by kernel_rfl) hf with ⟨hcs, _⟩ | ⟨x, l, c, zs, hcs, _, hl, hm, hz, _, hcell, hwz⟩
    · simp [Value.cells] at hcs
      obtain ⟨rfl, rfl, rfl⟩ := hcs
      exact ⟨[], .inl ⟨rfl, rfl, rfl, rfl⟩⟩
    · simp [Value.cells] at hcs
      obtain ⟨rfl, rfl, rfl⟩ := hcs
      exact ⟨zs, .inr ⟨_, rfl, hl, hm, by simpa using hz, hcell, hwz, isRow_lt hcell⟩⟩
  clear hA0 hval0
  refine (walk W a0 len0 cap0 z0 w0 hL.1 hL.2).mono fun e W' ⟨he, bel⟩ => ?_
  subst he
  exact ⟨_, rfl, _, _, _, [], _, [], hW', trodAll_mk1 (shut_bool Tryd.underlying4 _), (trodAll_cons_mk (Below.trod laidOut (by kernel_rfl) (of_decide_eq_true (by kernel_rfl)) k0 bel lt0) trodAll_mk0), rfl, bel.frame _, fun h => by cases h⟩
end fnTextFormat

theorem fnTextFormat_row : Rows.FnTextFormatSaid :=
  OpenClaim.holds_of_wide 11 Tryd.f11 rfl rfl rfl rfl rfl rfl rfl ⟨rfl, rfl, rfl, rfl, rfl⟩ rfl rfl rfl rfl rfl (by kernel_rfl) Tryd.func11 (by kernel_rfl)
    (of_decide_eq_true (by kernel_rfl)) (by unfold Func.isWrapper; first | (rw [if_pos (by decide +kernel)]; kernel_rfl) | (rw [if_neg (by decide +kernel)]; exact ⟨rfl, rfl⟩))
    (fun os started H enc _ => fnTextFormat.lifted os started H enc)
theorem fnTextFormat_holds : Rows.FnTextFormatCardSaid :=
  Claim7.holds_tied_plain_at .later [] [.data, .data, .data] true _ false
    fnTextFormat_row (fun _ h => by cases h) (by kernel_rfl) (fun _ h => by cases h) fnTextFormat_row_tie rfl ⟨rfl, rfl⟩ (by kernel_rfl) rfl
    (fun f fn hf hfn => by
      obtain rfl : f = 11 := Option.some.inj ((show Tryd.prog.funcNamed "loop.example/fixedmath/laws.FnTextFormat" = some 11 by kernel_rfl).symm.trans hf) |>.symm
      obtain rfl : fn = Tryd.f11 := (Option.some.inj (Tryd.func11.symm.trans hfn)).symm
      exact ⟨by kernel_rfl, fun j t ht => by
        rw [Tryd.params11] at ht
        have hm : t ∈ [28] := by simpa using Array.mem_of_getElem? ht
        have hall : ([28].all fun u => !Tryd.prog.wantsStandIn u) = true := by kernel_rfl
        exact (show Tryd.prog.wantsStandIn t = false by simpa using List.all_eq_true.1 hall t hm)⟩)
    (by kernel_rfl)
#print axioms fnTextFormat_holds

end Go.Proofs.YtcgbbbcanmkcbaaDoor
