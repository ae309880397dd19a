/- What a span proves. No condition: contracts for the walks of the laws. -/
import Derived.Test.YtpecffijmamddaaSpan
namespace Go.Proofs.Ytpecffijmamddaa
open Go.ChangeShapes Go.WideShapes Go.ChangeAt Go.RowKit

def sppB (a b p q n : Int) : Bool := spB a b && fitB p q n && decide (rnd a (2 ^ (28 - q).toNat) = n) && decide (rnd b (2 ^ (28 - q).toNat) = n)
theorem sppB_s {a b p q n : Int} (h : spB a b = false) : false = sppB a b p q n := by unfold sppB; rw [h]; rfl
theorem sppB_f {a b p q n : Int} (hs : spB a b = true) (h : fitB p q n = false) : false = sppB a b p q n := by unfold sppB; rw [hs, h]; rfl
theorem sppB_v {a b p q n : Int} (hs : spB a b = true) (h : fitB p q n = true) : (decide (rnd a (2 ^ (28 - q).toNat) = n) && decide (rnd b (2 ^ (28 - q).toNat) = n)) = sppB a b p q n := by unfold sppB; rw [hs, h]; rfl
set_option maxHeartbeats 2000000 in
theorem spp_impl (a b p q n : Int) (w : World) : Calls Try.prog 19 #[.agg #[.int .i64 a, .int .i64 b], .agg #[.int .i64 p, .int .i64 q], .int .i64 n] w fun e w' => e = .returned (.bool (sppB a b p q n)) ∧ Below w.heap.size w w' := by
  cases hs : spB a b
  · have HE := Lib.hid (sppB_s (p := p) (q := q) (n := n) hs)
    go_enter Try.func19, Try.ntmps19
    go_wp2_with fail
    refine (spvb_impl hs _).mono ?_
    rintro e w1 ⟨rfl, mm, rfl⟩
    go_wp2_with fail
    go_ret
    exact ⟨ret_bool HE.out, (by repeat' (first | (with_reducible exact Below.refl _ _) | (with_reducible assumption) | (with_reducible refine below_drewN ?_ _) | (with_reducible refine Below.drew ?_) | (with_reducible refine bl_alloc ?_ _) | (with_reducible refine bl_set ?_ ?_ _) | go_size | omega))⟩
  · obtain ⟨a1, a2, b1, b2, ab⟩ := spB_mk hs
    go_enter Try.func19, Try.ntmps19
    go_wp2_with fail
    refine (spvb_impl hs _).mono ?_
    rintro e w1 ⟨rfl, mm, rfl⟩
    go_wp2_with fail
    refine (fits_impl _ _ _ _).mono ?_
    rintro e w2 ⟨rfl, hb⟩
    replace hb := undrewN hb
    have bs := (((Blk.new w 34 #[.int .i64 a, .int .i64 b]).alloc (.cells #[.int .i64 p, .int .i64 q] 36)).alloc (.cells #[.int .i64 a, .int .i64 b] 34)).below hb (by simp <;> omega)
    have bf := ((Blk.new (w.alloc (.cells #[.int .i64 a, .int .i64 b] 34)) 36 #[.int .i64 p, .int .i64 q]).alloc (.cells #[.int .i64 a, .int .i64 b] 34)).below hb (by simp <;> omega)
    rw [World.size_alloc] at bf
    obtain ⟨c0, c1, -, -, ls⟩ := blk2 bs
    obtain ⟨d0, d1, -, -, lf⟩ := blk2 bf
    (repeat (replace hb := unalloc hb))
    have HB := Lib.hid hb
    clear hb bs bf
    cases hf : fitB p q n
    · have HE := Lib.hid (sppB_f (a := a) (b := b) hs hf)
      go_wp2_with fail
      go_ret
      have hb := HB.out
      exact ⟨ret_bool HE.out, hb⟩
    · obtain ⟨⟨f1, f2, f3, f4⟩, -, -⟩ := fitB_mk hf
      obtain ⟨g1, g2⟩ := p2_bd (k := 28 - q) (by omega) (by omega)
      have HE := Lib.hid (sppB_v hs hf)
      have hw0 : IntKind.i64.wrap (28 - q) = 28 - q := IntWalk.i64_in _ (by omega)
      have hw1 : IntKind.i64.wrap (2 ^ (28 - q).toNat) = 2 ^ (28 - q).toNat := IntWalk.i64_in _ (by omega)
      have hw2 : IntKind.i64.wrap (1 * 2 ^ (28 - q).toNat) = 2 ^ (28 - q).toNat := (congrArg IntKind.i64.wrap (Int.one_mul _)).trans hw1
      cases hA : (rnd a (2 ^ (28 - q).toNat) == n)
      all_goals
        go_wp2_with (first | (go_at_call 49; refine (rs_impl _ _ _ (by omega) (by omega) (by omega) (by omega)).mono ?_; rintro e w3 ⟨rfl, rfl⟩))
        skip
        skip
        go_ret
        have hb := HB.out
        exact ⟨ret_bool (by rw [← HE.out]; simp only [beq_iff_eq, beq_eq_false_iff_ne, ne_eq] at hA; first | (simp [hA]; done) | (simp [hA]; rfl)), (by repeat' (first | (with_reducible exact Below.refl _ _) | (with_reducible assumption) | (with_reducible refine below_drewN ?_ _) | (with_reducible refine Below.drew ?_) | (with_reducible refine bl_alloc ?_ _) | (with_reducible refine bl_set ?_ ?_ _) | go_size | omega))⟩

set_option maxHeartbeats 2000000 in
theorem spp_spec (a b p q n : Int) (w : World) : Calls Try.prog 16 #[.agg #[.int .i64 a, .int .i64 b], .agg #[.int .i64 p, .int .i64 q], .int .i64 n] w fun e w' => e = .returned (.bool (sppB a b p q n)) ∧ Below w.heap.size w w' := by
  cases hs : spB a b
  · have HE := Lib.hid (sppB_s (p := p) (q := q) (n := n) hs)
    go_enter Try.func16, Try.ntmps16
    go_wp2_with fail
    refine (spvb_spec hs _).mono ?_
    rintro e w1 ⟨rfl, mm, rfl⟩
    go_wp2_with fail
    go_ret
    exact ⟨ret_bool HE.out, (by repeat' (first | (with_reducible exact Below.refl _ _) | (with_reducible assumption) | (with_reducible refine below_drewN ?_ _) | (with_reducible refine Below.drew ?_) | (with_reducible refine bl_alloc ?_ _) | (with_reducible refine bl_set ?_ ?_ _) | go_size | omega))⟩
  · obtain ⟨a1, a2, b1, b2, ab⟩ := spB_mk hs
    go_enter Try.func16, Try.ntmps16
    go_wp2_with fail
    refine (spvb_spec hs _).mono ?_
    rintro e w1 ⟨rfl, mm, rfl⟩
    go_wp2_with fail
    refine (fits_spec _ _ _ _).mono ?_
    rintro e w2 ⟨rfl, hb⟩
    replace hb := undrewN hb
    have bs := (((Blk.new w 34 #[.int .i64 a, .int .i64 b]).alloc (.cells #[.int .i64 p, .int .i64 q] 36)).alloc (.cells #[.int .i64 a, .int .i64 b] 34)).below hb (by simp <;> omega)
    have bf := ((Blk.new (w.alloc (.cells #[.int .i64 a, .int .i64 b] 34)) 36 #[.int .i64 p, .int .i64 q]).alloc (.cells #[.int .i64 a, .int .i64 b] 34)).below hb (by simp <;> omega)
    rw [World.size_alloc] at bf
    obtain ⟨c0, c1, -, -, ls⟩ := blk2 bs
    obtain ⟨d0, d1, -, -, lf⟩ := blk2 bf
    (repeat (replace hb := unalloc hb))
    have HB := Lib.hid hb
    clear hb bs bf
    cases hf : fitB p q n
    · have HE := Lib.hid (sppB_f (a := a) (b := b) hs hf)
      go_wp2_with fail
      go_ret
      have hb := HB.out
      exact ⟨ret_bool HE.out, hb⟩
    · obtain ⟨⟨f1, f2, f3, f4⟩, -, -⟩ := fitB_mk hf
      obtain ⟨g1, g2⟩ := p2_bd (k := 28 - q) (by omega) (by omega)
      have HE := Lib.hid (sppB_v hs hf)
      have hw0 : IntKind.i64.wrap (28 - q) = 28 - q := IntWalk.i64_in _ (by omega)
      have hw1 : IntKind.i64.wrap (2 ^ (28 - q).toNat) = 2 ^ (28 - q).toNat := IntWalk.i64_in _ (by omega)
      have hw2 : IntKind.i64.wrap (1 * 2 ^ (28 - q).toNat) = 2 ^ (28 - q).toNat := (congrArg IntKind.i64.wrap (Int.one_mul _)).trans hw1
      cases hA : (rnd a (2 ^ (28 - q).toNat) == n)
      all_goals
        go_wp2_with fail
        go_quiet ((go_at_call 46; exact Calls.quiet_of_same ((l1round_any _ _ _ (by omega) (by omega) (by omega) (by omega)).mono fun e w3 hh => ⟨hh.1, hh.2.symm⟩)))
        go_wp2_with fail
        go_ret
        have hb := HB.out
        exact ⟨ret_bool (by rw [← HE.out]; simp only [beq_iff_eq, beq_eq_false_iff_ne, ne_eq] at hA; first | (simp [hA]; done) | (simp [hA]; rfl)), (by repeat' (first | (with_reducible exact Below.refl _ _) | (with_reducible assumption) | (with_reducible refine below_drewN ?_ _) | (with_reducible refine Below.drew ?_) | (with_reducible refine bl_alloc ?_ _) | (with_reducible refine bl_set ?_ ?_ _) | go_size | omega))⟩


end Go.Proofs.Ytpecffijmamddaa
