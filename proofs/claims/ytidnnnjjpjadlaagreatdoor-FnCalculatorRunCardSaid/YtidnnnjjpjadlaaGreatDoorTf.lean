/- ToFormat of the program and of the reference. No condition: contracts for the walks of the laws. -/
import Derived.Test.YtidnnnjjpjadlaaGreatDoorRs
import Derived.Test.YtidnnnjjpjadlaaGreatDoorFo
import Derived.Test.YtidnnnjjpjadlaaGreatDoorSpan
namespace Go.Proofs.YtidnnnjjpjadlaaGreatDoor
open Go.ChangeShapes Go.WideShapes Go.ChangeAt Go.RowKit

/-- A stored number in another format, before it is cut. -/
def tfV (q q2 n : Int) : Int := if q ≤ q2 then n * 2 ^ (q2 - q).toNat else rnd n (2 ^ (q - q2).toNat)
theorem mul_absI {x y N M : Int} (h1 : -N ≤ x) (h2 : x ≤ N) (h3 : -M ≤ y) (h4 : y ≤ M) (hN : 0 ≤ N) (hM : 0 ≤ M) : -(N * M) ≤ x * y ∧ x * y ≤ N * M := by
  have k : x.natAbs * y.natAbs ≤ N.natAbs * M.natAbs := Nat.mul_le_mul (by omega) (by omega)
  rw [← Int.natAbs_mul, ← Int.natAbs_mul] at k
  have := Int.mul_nonneg hN hM
  omega
structure In2 (w : World) (p q p2 q2 : Int) (w' : World) : Prop where
  bel : Below w.heap.size w w'
  a : Blk w' w.heap.size 24 #[.int .i64 p, .int .i64 q]
  b : Blk w' (w.heap.size + 1) 24 #[.int .i64 p2, .int .i64 q2]
theorem In2.below {w w1 w2 : World} {p q p2 q2 : Int} (h : In2 w p q p2 q2 w1) (hb : Below w1.heap.size w1 w2) : In2 w p q p2 q2 w2 := ⟨bl_behind hb h.bel, h.a.below hb h.a.lt, h.b.below hb h.b.lt⟩
theorem In2.drew {w w1 : World} {p q p2 q2 : Int} (h : In2 w p q p2 q2 w1) : In2 w p q p2 q2 { w1 with drawn := w1.drawn + 1 } := ⟨h.bel.drew, h.a.drew, h.b.drew⟩
theorem In2.moved {w w1 w2 : World} {p q p2 q2 : Int} (h : In2 w p q p2 q2 w1) (hb : Below w1.heap.size w1 w2) : In2 w p q p2 q2 w2 := h.below hb
set_option maxHeartbeats 4000000 in
theorem tfm_impl_out (p q p2 q2 n : Int) (w : World) (h : fitB p q n = false ∨ fmtB p2 q2 = false) : Calls Tryz.prog 57 #[.int .i64 n, .agg #[.int .i64 p, .int .i64 q], .agg #[.int .i64 p2, .int .i64 q2]] w fun e w' => e = .returned (.tuple #[.int .i64 0, .bool false]) ∧ Below w.heap.size w w' := by
  have HB := Lib.hid (Below.refl w.heap.size w)
  have Bx := Lib.hid ((Blk.new w 24 #[.int .i64 p, .int .i64 q]).alloc (.cells #[.int .i64 p2, .int .i64 q2] 24))
  have Bz : Hid (Blk ((w.alloc (.cells #[.int .i64 p, .int .i64 q] 24)).alloc (.cells #[.int .i64 p2, .int .i64 q2] 24)) (w.heap.size + 1) 24 #[.int .i64 p2, .int .i64 q2]) := Lib.hid (Blk.newAt (by simp))
  have FI := Lib.hid (fun w' => fits_impl p q n w')
  rcases hf : fitB p q n
  · rw [hf] at FI
    clear hf h
    go_enter Tryz.func57, Tryz.ntmps57
    go_wp2_with fail
    refine (FI.out _).mono ?_
    rintro e w1 ⟨rfl, hb⟩
    have hw := bl_behind (w := w) hb (by have hb0 := HB.out; repeat (first | (with_reducible exact hb0) | (with_reducible refine below_drewN ?_ _) | (with_reducible refine Below.drew ?_) | (with_reducible refine bl_alloc ?_ _))); have bx := Blk.below (g := w.heap.size) (t := 24) (cs := #[.int .i64 p, .int .i64 q]) (by repeat (first | (with_reducible exact Bx.out) | (with_reducible exact Blk.new _ _ _) | (with_reducible refine Blk.drewN ?_ _) | (with_reducible refine Blk.drew ?_) | (with_reducible refine Blk.alloc ?_ _))) hb (by first | (have := Bx.out.lt; first | omega | (simp; omega)) | (simp; done) | (simp; omega)); have Bx := Lib.hid bx; obtain ⟨kx0, kx1, fx0, fx1, lx⟩ := blk2 bx; clear bx; have bz := Blk.below (g := (w.heap.size + 1)) (t := 24) (cs := #[.int .i64 p2, .int .i64 q2]) (by repeat (first | (with_reducible exact Bz.out) | (with_reducible exact Blk.new _ _ _) | (with_reducible refine Blk.drewN ?_ _) | (with_reducible refine Blk.drew ?_) | (with_reducible refine Blk.alloc ?_ _))) hb (by first | (have := Bz.out.lt; first | omega | (simp; omega)) | (simp; done) | (simp; omega)); have Bz := Lib.hid bz; obtain ⟨kz0, kz1, fz0, fz1, lz⟩ := blk2 bz; clear bz; have HB := Lib.hid hw; clear hw hb
    go_wp2_with fail
    go_ret2
    have hb := HB.out
    exact ⟨rfl, (by repeat' (first | (with_reducible exact Below.refl _ _) | (with_reducible assumption) | (with_reducible refine below_drewN ?_ _) | (with_reducible refine Below.drew ?_) | (with_reducible refine bl_alloc ?_ _) | (with_reducible refine bl_set ?_ ?_ _) | go_size | omega))⟩
  · rw [hf] at FI
    have hv := Lib.hid (h.resolve_left (by rw [hf]; decide))
    clear hf h
    go_enter Tryz.func57, Tryz.ntmps57
    go_wp2_with fail
    refine (FI.out _).mono ?_
    rintro e w1 ⟨rfl, hb⟩
    have hw := bl_behind (w := w) hb (by have hb0 := HB.out; repeat (first | (with_reducible exact hb0) | (with_reducible refine below_drewN ?_ _) | (with_reducible refine Below.drew ?_) | (with_reducible refine bl_alloc ?_ _))); have bx := Blk.below (g := w.heap.size) (t := 24) (cs := #[.int .i64 p, .int .i64 q]) (by repeat (first | (with_reducible exact Bx.out) | (with_reducible exact Blk.new _ _ _) | (with_reducible refine Blk.drewN ?_ _) | (with_reducible refine Blk.drew ?_) | (with_reducible refine Blk.alloc ?_ _))) hb (by first | (have := Bx.out.lt; first | omega | (simp; omega)) | (simp; done) | (simp; omega)); have Bx := Lib.hid bx; obtain ⟨kx0, kx1, fx0, fx1, lx⟩ := blk2 bx; clear bx; have bz := Blk.below (g := (w.heap.size + 1)) (t := 24) (cs := #[.int .i64 p2, .int .i64 q2]) (by repeat (first | (with_reducible exact Bz.out) | (with_reducible exact Blk.new _ _ _) | (with_reducible refine Blk.drewN ?_ _) | (with_reducible refine Blk.drew ?_) | (with_reducible refine Blk.alloc ?_ _))) hb (by first | (have := Bz.out.lt; first | omega | (simp; omega)) | (simp; done) | (simp; omega)); have Bz := Lib.hid bz; obtain ⟨kz0, kz1, fz0, fz1, lz⟩ := blk2 bz; clear bz; have HB := Lib.hid hw; clear hw hb
    go_wp2_with (first | (go_at_call 75; refine (fmvb_impl hv.out _).mono ?_; rintro e w' ⟨rfl, mm, rfl⟩))
    go_ret2
    have hb := HB.out
    exact ⟨rfl, (by repeat' (first | (with_reducible exact Below.refl _ _) | (with_reducible assumption) | (with_reducible refine below_drewN ?_ _) | (with_reducible refine Below.drew ?_) | (with_reducible refine bl_alloc ?_ _) | (with_reducible refine bl_set ?_ ?_ _) | go_size | omega))⟩
set_option maxHeartbeats 4000000 in
theorem tfm_impl_in (p q p2 q2 n : Int) (w : World) (hf : fitB p q n = true) (h1 : 1 ≤ p2) (h2 : p2 ≤ 12) (h3 : 0 ≤ q2) (h4 : q2 ≤ 16) : Calls Tryz.prog 57 #[.int .i64 n, .agg #[.int .i64 p, .int .i64 q], .agg #[.int .i64 p2, .int .i64 q2]] w fun e w' => e = .returned (.tuple #[.int .i64 (cutV p2 q2 (tfV q q2 n)), .bool (cutV p2 q2 (tfV q q2 n) == tfV q q2 n)]) ∧ Below w.heap.size w w' := by
  have HB := Lib.hid (Below.refl w.heap.size w)
  have Bx := Lib.hid ((Blk.new w 24 #[.int .i64 p, .int .i64 q]).alloc (.cells #[.int .i64 p2, .int .i64 q2] 24))
  have Bz : Hid (Blk ((w.alloc (.cells #[.int .i64 p, .int .i64 q] 24)).alloc (.cells #[.int .i64 p2, .int .i64 q2] 24)) (w.heap.size + 1) 24 #[.int .i64 p2, .int .i64 q2]) := Lib.hid (Blk.newAt (by simp))
  have FI := Lib.hid (fun w' => fits_impl p q n w')
  obtain ⟨⟨f1, f2, f3, f4⟩, f5, f6⟩ := fitB_mk hf
  have hpw := pw_bd f1 f2 f3 f4
  have hn1 : -268435456 ≤ n ∧ n ≤ 268435456 := by omega
  obtain ⟨hn1, hn2⟩ := hn1
  rw [hf] at FI
  have hv := Lib.hid (fmtB_in h1 h2 h3 h4).symm
  rcases (by omega : q ≤ q2 ∨ q2 < q) with hq | hq
  · obtain ⟨d1, d2⟩ := p2_bd (k := q2 - q) (by omega) (by omega)
    have d3 := two_le (a := (q2 - q).toNat) (b := 16) (by omega)
    have HE := Lib.hid (show tfV q q2 n = n * 2 ^ (q2 - q).toNat by unfold tfV; rw [if_pos hq])
    have p1 := mul_absI (x := n) (y := 2 ^ (q2 - q).toNat) (N := 268435456) (M := 65536) (by omega) (by omega) (by omega) (by omega) (by omega) (by omega)
    have e1 : wrap64 (n * 2 ^ (q2 - q).toNat) = n * 2 ^ (q2 - q).toNat := wr64 (by omega) (by omega)
    have e2 : IntKind.i64.wrap (q2 - q) = q2 - q := IntWalk.i64_in _ (by omega)
    have e3 : IntKind.i64.wrap (n * 2 ^ (q2 - q).toNat) = n * 2 ^ (q2 - q).toNat := IntWalk.i64_in _ (by omega)
    clear hf f5 f6
    go_enter Tryz.func57, Tryz.ntmps57
    go_wp2_with fail
    refine (FI.out _).mono ?_
    rintro e w1 ⟨rfl, hb⟩
    have hw := bl_behind (w := w) hb (by have hb0 := HB.out; repeat (first | (with_reducible exact hb0) | (with_reducible refine below_drewN ?_ _) | (with_reducible refine Below.drew ?_) | (with_reducible refine bl_alloc ?_ _))); have bx := Blk.below (g := w.heap.size) (t := 24) (cs := #[.int .i64 p, .int .i64 q]) (by repeat (first | (with_reducible exact Bx.out) | (with_reducible exact Blk.new _ _ _) | (with_reducible refine Blk.drewN ?_ _) | (with_reducible refine Blk.drew ?_) | (with_reducible refine Blk.alloc ?_ _))) hb (by first | (have := Bx.out.lt; first | omega | (simp; omega)) | (simp; done) | (simp; omega)); have Bx := Lib.hid bx; obtain ⟨kx0, kx1, fx0, fx1, lx⟩ := blk2 bx; clear bx; have bz := Blk.below (g := (w.heap.size + 1)) (t := 24) (cs := #[.int .i64 p2, .int .i64 q2]) (by repeat (first | (with_reducible exact Bz.out) | (with_reducible exact Blk.new _ _ _) | (with_reducible refine Blk.drewN ?_ _) | (with_reducible refine Blk.drew ?_) | (with_reducible refine Blk.alloc ?_ _))) hb (by first | (have := Bz.out.lt; first | omega | (simp; omega)) | (simp; done) | (simp; omega)); have Bz := Lib.hid bz; obtain ⟨kz0, kz1, fz0, fz1, lz⟩ := blk2 bz; clear bz; have HB := Lib.hid hw; clear hw hb
    go_wp2_with (first | (go_at_call 75; refine (fmvb_impl hv.out _).mono ?_; rintro e w' ⟨rfl, mm, rfl⟩))
    refine (cut_impl _ _ _ _ h1 h2 h3 h4).mono ?_
    rintro e w2 ⟨rfl, hb⟩
    have hw := bl_behind (w := w) hb (by have hb0 := HB.out; repeat (first | (with_reducible exact hb0) | (with_reducible refine below_drewN ?_ _) | (with_reducible refine Below.drew ?_) | (with_reducible refine bl_alloc ?_ _))); have bx := Blk.below (g := w.heap.size) (t := 24) (cs := #[.int .i64 p, .int .i64 q]) (by repeat (first | (with_reducible exact Bx.out) | (with_reducible exact Blk.new _ _ _) | (with_reducible refine Blk.drewN ?_ _) | (with_reducible refine Blk.drew ?_) | (with_reducible refine Blk.alloc ?_ _))) hb (by first | (have := Bx.out.lt; first | omega | (simp; omega)) | (simp; done) | (simp; omega)); have Bx := Lib.hid bx; obtain ⟨kx0, kx1, fx0, fx1, lx⟩ := blk2 bx; clear bx; have bz := Blk.below (g := (w.heap.size + 1)) (t := 24) (cs := #[.int .i64 p2, .int .i64 q2]) (by repeat (first | (with_reducible exact Bz.out) | (with_reducible exact Blk.new _ _ _) | (with_reducible refine Blk.drewN ?_ _) | (with_reducible refine Blk.drew ?_) | (with_reducible refine Blk.alloc ?_ _))) hb (by first | (have := Bz.out.lt; first | omega | (simp; omega)) | (simp; done) | (simp; omega)); have Bz := Lib.hid bz; obtain ⟨kz0, kz1, fz0, fz1, lz⟩ := blk2 bz; clear bz; have HB := Lib.hid hw; clear hw hb
    rw [← HE.out]
    go_wp2_with fail
    go_ret2
    have hb := HB.out
    exact ⟨rfl, (by repeat' (first | (with_reducible exact Below.refl _ _) | (with_reducible assumption) | (with_reducible refine below_drewN ?_ _) | (with_reducible refine Below.drew ?_) | (with_reducible refine bl_alloc ?_ _) | (with_reducible refine bl_set ?_ ?_ _) | go_size | omega))⟩
  · obtain ⟨d1, d2⟩ := p2_bd (k := q - q2) (by omega) (by omega)
    have HE := Lib.hid (show tfV q q2 n = rnd n (2 ^ (q - q2).toNat) by unfold tfV; rw [if_neg (by omega)])
    have e1 : wrap64 (2 ^ (q - q2).toNat) = 2 ^ (q - q2).toNat := wr64 (by omega) (by omega)
    have e2 : IntKind.i64.wrap (q - q2) = q - q2 := IntWalk.i64_in _ (by omega)
    have e3 : IntKind.i64.wrap (2 ^ (q - q2).toNat) = 2 ^ (q - q2).toNat := IntWalk.i64_in _ (by omega)
    clear hf f5 f6
    go_enter Tryz.func57, Tryz.ntmps57
    go_wp2_with fail
    refine (FI.out _).mono ?_
    rintro e w1 ⟨rfl, hb⟩
    have hw := bl_behind (w := w) hb (by have hb0 := HB.out; repeat (first | (with_reducible exact hb0) | (with_reducible refine below_drewN ?_ _) | (with_reducible refine Below.drew ?_) | (with_reducible refine bl_alloc ?_ _))); have bx := Blk.below (g := w.heap.size) (t := 24) (cs := #[.int .i64 p, .int .i64 q]) (by repeat (first | (with_reducible exact Bx.out) | (with_reducible exact Blk.new _ _ _) | (with_reducible refine Blk.drewN ?_ _) | (with_reducible refine Blk.drew ?_) | (with_reducible refine Blk.alloc ?_ _))) hb (by first | (have := Bx.out.lt; first | omega | (simp; omega)) | (simp; done) | (simp; omega)); have Bx := Lib.hid bx; obtain ⟨kx0, kx1, fx0, fx1, lx⟩ := blk2 bx; clear bx; have bz := Blk.below (g := (w.heap.size + 1)) (t := 24) (cs := #[.int .i64 p2, .int .i64 q2]) (by repeat (first | (with_reducible exact Bz.out) | (with_reducible exact Blk.new _ _ _) | (with_reducible refine Blk.drewN ?_ _) | (with_reducible refine Blk.drew ?_) | (with_reducible refine Blk.alloc ?_ _))) hb (by first | (have := Bz.out.lt; first | omega | (simp; omega)) | (simp; done) | (simp; omega)); have Bz := Lib.hid bz; obtain ⟨kz0, kz1, fz0, fz1, lz⟩ := blk2 bz; clear bz; have HB := Lib.hid hw; clear hw hb
    go_wp2_with (first | (go_at_call 75; refine (fmvb_impl hv.out _).mono ?_; rintro e w' ⟨rfl, mm, rfl⟩))
    have hC : In2 w p q p2 q2 _ := ⟨HB.out, Bx.out, Bz.out⟩
    refine wp_region_quietC (C := In2 w p q p2 q2) (by kernel_rfl) (by kernel_rfl) (by first | exact hC.drew | exact (hC.moved (by repeat (first | (with_reducible exact Below.refl _ _) | (with_reducible refine below_drewN ?_ _) | (with_reducible refine Below.drew ?_) | (with_reducible refine bl_alloc ?_ _)))).drew) ?_
    repeat
      (refine wpQuiet_step (fun K hK => ?_)
       go_simp
       first
         | (refine hK _ ?_; clear hK K)
         | (apply Exists.intro
            refine ⟨fun w' hw' => ?_, hK _ ?_⟩
            first
              | (obtain ⟨c0, c1, -, -, lz⟩ := blk2 hw'.a; obtain ⟨d0, d1, -, -, ld⟩ := blk2 hw'.b; go_simp; rfl)
              | (go_at_call 87; refine (rs_impl _ _ _ (by omega) (by omega) (by omega) (by omega)).mono ?_; rintro e w2 ⟨rfl, rfl⟩; exact ⟨rfl, hw'⟩) | (go_at_call 82; refine (cut_impl _ _ _ _ h1 h2 h3 h4).mono ?_; rintro e w2 ⟨rfl, hb2⟩; exact ⟨rfl, hw'.below hb2⟩)
            clear hK K))
    refine wpQuiet_nil ?_
    intro w2 hw2
    rw [← HE.out]
    go_wp2_with fail
    go_ret2
    exact ⟨rfl, hw2.bel⟩
set_option maxHeartbeats 4000000 in
theorem tfm_spec_out (p q p2 q2 n : Int) (w : World) (h : fitB p q n = false ∨ fmtB p2 q2 = false) : Calls Tryz.prog 39 #[.int .i64 n, .agg #[.int .i64 p, .int .i64 q], .agg #[.int .i64 p2, .int .i64 q2]] w fun e w' => e = .returned (.tuple #[.int .i64 0, .bool false]) ∧ Below w.heap.size w w' := by
  have HB := Lib.hid (Below.refl w.heap.size w)
  have Bx := Lib.hid ((Blk.new w 24 #[.int .i64 p, .int .i64 q]).alloc (.cells #[.int .i64 p2, .int .i64 q2] 24))
  have Bz : Hid (Blk ((w.alloc (.cells #[.int .i64 p, .int .i64 q] 24)).alloc (.cells #[.int .i64 p2, .int .i64 q2] 24)) (w.heap.size + 1) 24 #[.int .i64 p2, .int .i64 q2]) := Lib.hid (Blk.newAt (by simp))
  have FI := Lib.hid (fun w' => fits_spec p q n w')
  rcases hf : fmtB p2 q2
  · have hv := Lib.hid hf
    clear hf h FI
    go_enter Tryz.func39, Tryz.ntmps39
    go_wp2_with (first | (go_at_call 64; refine (fmvb_spec hv.out _).mono ?_; rintro e w' ⟨rfl, mm, rfl⟩))
    go_ret2
    have hb := HB.out
    exact ⟨rfl, (by repeat' (first | (with_reducible exact Below.refl _ _) | (with_reducible assumption) | (with_reducible refine below_drewN ?_ _) | (with_reducible refine Below.drew ?_) | (with_reducible refine bl_alloc ?_ _) | (with_reducible refine bl_set ?_ ?_ _) | go_size | omega))⟩
  · have hv := Lib.hid hf
    have hff := h.resolve_right (by rw [hf]; decide)
    rw [hff] at FI
    clear hf h hff
    go_enter Tryz.func39, Tryz.ntmps39
    go_wp2_with (first | (go_at_call 64; refine (fmvb_spec hv.out _).mono ?_; rintro e w' ⟨rfl, mm, rfl⟩))
    refine (FI.out _).mono ?_
    rintro e w1 ⟨rfl, hb⟩
    have hw := bl_behind (w := w) hb (by have hb0 := HB.out; repeat (first | (with_reducible exact hb0) | (with_reducible refine below_drewN ?_ _) | (with_reducible refine Below.drew ?_) | (with_reducible refine bl_alloc ?_ _))); have bx := Blk.below (g := w.heap.size) (t := 24) (cs := #[.int .i64 p, .int .i64 q]) (by repeat (first | (with_reducible exact Bx.out) | (with_reducible exact Blk.new _ _ _) | (with_reducible refine Blk.drewN ?_ _) | (with_reducible refine Blk.drew ?_) | (with_reducible refine Blk.alloc ?_ _))) hb (by first | (have := Bx.out.lt; first | omega | (simp; omega)) | (simp; done) | (simp; omega)); have Bx := Lib.hid bx; obtain ⟨kx0, kx1, fx0, fx1, lx⟩ := blk2 bx; clear bx; have bz := Blk.below (g := (w.heap.size + 1)) (t := 24) (cs := #[.int .i64 p2, .int .i64 q2]) (by repeat (first | (with_reducible exact Bz.out) | (with_reducible exact Blk.new _ _ _) | (with_reducible refine Blk.drewN ?_ _) | (with_reducible refine Blk.drew ?_) | (with_reducible refine Blk.alloc ?_ _))) hb (by first | (have := Bz.out.lt; first | omega | (simp; omega)) | (simp; done) | (simp; omega)); have Bz := Lib.hid bz; obtain ⟨kz0, kz1, fz0, fz1, lz⟩ := blk2 bz; clear bz; have HB := Lib.hid hw; clear hw hb
    go_wp2_with fail
    go_ret2
    have hb := HB.out
    exact ⟨rfl, (by repeat' (first | (with_reducible exact Below.refl _ _) | (with_reducible assumption) | (with_reducible refine below_drewN ?_ _) | (with_reducible refine Below.drew ?_) | (with_reducible refine bl_alloc ?_ _) | (with_reducible refine bl_set ?_ ?_ _) | go_size | omega))⟩
set_option maxHeartbeats 4000000 in
theorem tfm_spec_in (p q p2 q2 n : Int) (w : World) (hf : fitB p q n = true) (h1 : 1 ≤ p2) (h2 : p2 ≤ 12) (h3 : 0 ≤ q2) (h4 : q2 ≤ 16) : Calls Tryz.prog 39 #[.int .i64 n, .agg #[.int .i64 p, .int .i64 q], .agg #[.int .i64 p2, .int .i64 q2]] w fun e w' => e = .returned (.tuple #[.int .i64 (cutV p2 q2 (tfV q q2 n)), .bool (cutV p2 q2 (tfV q q2 n) == tfV q q2 n)]) ∧ Below w.heap.size w w' := by
  have HB := Lib.hid (Below.refl w.heap.size w)
  have Bx := Lib.hid ((Blk.new w 24 #[.int .i64 p, .int .i64 q]).alloc (.cells #[.int .i64 p2, .int .i64 q2] 24))
  have Bz : Hid (Blk ((w.alloc (.cells #[.int .i64 p, .int .i64 q] 24)).alloc (.cells #[.int .i64 p2, .int .i64 q2] 24)) (w.heap.size + 1) 24 #[.int .i64 p2, .int .i64 q2]) := Lib.hid (Blk.newAt (by simp))
  have FI := Lib.hid (fun w' => fits_spec p q n w')
  obtain ⟨⟨f1, f2, f3, f4⟩, f5, f6⟩ := fitB_mk hf
  have hpw := pw_bd f1 f2 f3 f4
  have hn1 : -268435456 ≤ n ∧ n ≤ 268435456 := by omega
  obtain ⟨hn1, hn2⟩ := hn1
  rw [hf] at FI
  have hv := Lib.hid (fmtB_in h1 h2 h3 h4).symm
  rcases (by omega : q ≤ q2 ∨ q2 < q) with hq | hq
  · obtain ⟨d1, d2⟩ := p2_bd (k := q2 - q) (by omega) (by omega)
    have d3 := two_le (a := (q2 - q).toNat) (b := 16) (by omega)
    have HE := Lib.hid (show tfV q q2 n = n * 2 ^ (q2 - q).toNat by unfold tfV; rw [if_pos hq])
    have p1 := mul_absI (x := n) (y := 2 ^ (q2 - q).toNat) (N := 268435456) (M := 65536) (by omega) (by omega) (by omega) (by omega) (by omega) (by omega)
    have e1 : wrap64 (n * 2 ^ (q2 - q).toNat) = n * 2 ^ (q2 - q).toNat := wr64 (by omega) (by omega)
    have e2 : IntKind.i64.wrap (q2 - q) = q2 - q := IntWalk.i64_in _ (by omega)
    have e3 : IntKind.i64.wrap (n * 2 ^ (q2 - q).toNat) = n * 2 ^ (q2 - q).toNat := IntWalk.i64_in _ (by omega)
    clear hf f5 f6
    go_enter Tryz.func39, Tryz.ntmps39
    go_wp2_with (first | (go_at_call 64; refine (fmvb_spec hv.out _).mono ?_; rintro e w' ⟨rfl, mm, rfl⟩))
    refine (FI.out _).mono ?_
    rintro e w1 ⟨rfl, hb⟩
    have hw := bl_behind (w := w) hb (by have hb0 := HB.out; repeat (first | (with_reducible exact hb0) | (with_reducible refine below_drewN ?_ _) | (with_reducible refine Below.drew ?_) | (with_reducible refine bl_alloc ?_ _))); have bx := Blk.below (g := w.heap.size) (t := 24) (cs := #[.int .i64 p, .int .i64 q]) (by repeat (first | (with_reducible exact Bx.out) | (with_reducible exact Blk.new _ _ _) | (with_reducible refine Blk.drewN ?_ _) | (with_reducible refine Blk.drew ?_) | (with_reducible refine Blk.alloc ?_ _))) hb (by first | (have := Bx.out.lt; first | omega | (simp; omega)) | (simp; done) | (simp; omega)); have Bx := Lib.hid bx; obtain ⟨kx0, kx1, fx0, fx1, lx⟩ := blk2 bx; clear bx; have bz := Blk.below (g := (w.heap.size + 1)) (t := 24) (cs := #[.int .i64 p2, .int .i64 q2]) (by repeat (first | (with_reducible exact Bz.out) | (with_reducible exact Blk.new _ _ _) | (with_reducible refine Blk.drewN ?_ _) | (with_reducible refine Blk.drew ?_) | (with_reducible refine Blk.alloc ?_ _))) hb (by first | (have := Bz.out.lt; first | omega | (simp; omega)) | (simp; done) | (simp; omega)); have Bz := Lib.hid bz; obtain ⟨kz0, kz1, fz0, fz1, lz⟩ := blk2 bz; clear bz; have HB := Lib.hid hw; clear hw hb
    go_wp2_with fail
    have hC : In2 w p q p2 q2 _ := ⟨HB.out, Bx.out, Bz.out⟩
    refine wp_region_quietC (C := In2 w p q p2 q2) (by kernel_rfl) (by kernel_rfl) (by first | exact hC.drew | exact (hC.moved (by repeat (first | (with_reducible exact Below.refl _ _) | (with_reducible refine below_drewN ?_ _) | (with_reducible refine Below.drew ?_) | (with_reducible refine bl_alloc ?_ _)))).drew) ?_
    repeat
      (refine wpQuiet_step (fun K hK => ?_)
       go_simp
       first
         | (refine hK _ ?_; clear hK K)
         | (apply Exists.intro
            refine ⟨fun w' hw' => ?_, hK _ ?_⟩
            first
              | (obtain ⟨c0, c1, -, -, lz⟩ := blk2 hw'.a; obtain ⟨d0, d1, -, -, ld⟩ := blk2 hw'.b; go_simp; rfl)
              | (go_at_call 36; refine (cut_spec _ _ _ _ h1 h2 h3 h4).mono ?_; rintro e w2 ⟨rfl, hb2⟩; exact ⟨rfl, hw'.below hb2⟩)
            clear hK K))
    refine wpQuiet_nil ?_
    intro w2 hw2
    rw [← HE.out]
    go_wp2_with fail
    go_ret2
    exact ⟨rfl, hw2.bel⟩
  · obtain ⟨d1, d2⟩ := p2_bd (k := q - q2) (by omega) (by omega)
    have HE := Lib.hid (show tfV q q2 n = rnd n (2 ^ (q - q2).toNat) by unfold tfV; rw [if_neg (by omega)])
    have e1 : wrap64 (2 ^ (q - q2).toNat) = 2 ^ (q - q2).toNat := wr64 (by omega) (by omega)
    have e2 : IntKind.i64.wrap (q - q2) = q - q2 := IntWalk.i64_in _ (by omega)
    have e3 : IntKind.i64.wrap (2 ^ (q - q2).toNat) = 2 ^ (q - q2).toNat := IntWalk.i64_in _ (by omega)
    clear hf f5 f6
    go_enter Tryz.func39, Tryz.ntmps39
    go_wp2_with (first | (go_at_call 64; refine (fmvb_spec hv.out _).mono ?_; rintro e w' ⟨rfl, mm, rfl⟩))
    refine (FI.out _).mono ?_
    rintro e w1 ⟨rfl, hb⟩
    have hw := bl_behind (w := w) hb (by have hb0 := HB.out; repeat (first | (with_reducible exact hb0) | (with_reducible refine below_drewN ?_ _) | (with_reducible refine Below.drew ?_) | (with_reducible refine bl_alloc ?_ _))); have bx := Blk.below (g := w.heap.size) (t := 24) (cs := #[.int .i64 p, .int .i64 q]) (by repeat (first | (with_reducible exact Bx.out) | (with_reducible exact Blk.new _ _ _) | (with_reducible refine Blk.drewN ?_ _) | (with_reducible refine Blk.drew ?_) | (with_reducible refine Blk.alloc ?_ _))) hb (by first | (have := Bx.out.lt; first | omega | (simp; omega)) | (simp; done) | (simp; omega)); have Bx := Lib.hid bx; obtain ⟨kx0, kx1, fx0, fx1, lx⟩ := blk2 bx; clear bx; have bz := Blk.below (g := (w.heap.size + 1)) (t := 24) (cs := #[.int .i64 p2, .int .i64 q2]) (by repeat (first | (with_reducible exact Bz.out) | (with_reducible exact Blk.new _ _ _) | (with_reducible refine Blk.drewN ?_ _) | (with_reducible refine Blk.drew ?_) | (with_reducible refine Blk.alloc ?_ _))) hb (by first | (have := Bz.out.lt; first | omega | (simp; omega)) | (simp; done) | (simp; omega)); have Bz := Lib.hid bz; obtain ⟨kz0, kz1, fz0, fz1, lz⟩ := blk2 bz; clear bz; have HB := Lib.hid hw; clear hw hb
    go_wp2_with fail
    have hC : In2 w p q p2 q2 _ := ⟨HB.out, Bx.out, Bz.out⟩
    refine wp_region_quietC (C := In2 w p q p2 q2) (by kernel_rfl) (by kernel_rfl) (by first | exact hC.drew | exact (hC.moved (by repeat (first | (with_reducible exact Below.refl _ _) | (with_reducible refine below_drewN ?_ _) | (with_reducible refine Below.drew ?_) | (with_reducible refine bl_alloc ?_ _)))).drew) ?_
    repeat
      (refine wpQuiet_step (fun K hK => ?_)
       go_simp
       first
         | (refine hK _ ?_; clear hK K)
         | (apply Exists.intro
            refine ⟨fun w' hw' => ?_, hK _ ?_⟩
            first
              | (obtain ⟨c0, c1, -, -, lz⟩ := blk2 hw'.a; obtain ⟨d0, d1, -, -, ld⟩ := blk2 hw'.b; go_simp; rfl)
              | (go_at_call 67; refine (l1round_any _ _ _ (by omega) (by omega) (by omega) (by omega)).mono ?_; rintro e w2 ⟨rfl, rfl⟩; exact ⟨rfl, hw'⟩) | (go_at_call 36; refine (cut_spec _ _ _ _ h1 h2 h3 h4).mono ?_; rintro e w2 ⟨rfl, hb2⟩; exact ⟨rfl, hw'.below hb2⟩)
            clear hK K))
    refine wpQuiet_nil ?_
    intro w2 hw2
    rw [← HE.out]
    go_wp2_with fail
    go_ret2
    exact ⟨rfl, hw2.bel⟩
end Go.Proofs.YtidnnnjjpjadlaaGreatDoor
