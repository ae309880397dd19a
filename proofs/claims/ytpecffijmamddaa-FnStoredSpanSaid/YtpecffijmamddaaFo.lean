/- Cut numbers. No condition: contracts for the walks of the laws. -/
import Derived.Test.YtpecffijmamddaaFmt
namespace Go.Proofs.Ytpecffijmamddaa
open Go.ChangeShapes Go.WideShapes Go.ChangeAt Go.RowKit

def cutV (p q v : Int) : Int := min (max v (-pw p q)) (pw p q - 1)
theorem cutV_1 {p q v m : Int} (h : m = if (if v < -pw p q then -pw p q else v) > pw p q - 1 then pw p q - 1 else (if v < -pw p q then -pw p q else v)) : m = cutV p q v := by
  unfold cutV; rw [h]; split <;> split <;> omega
set_option maxHeartbeats 2000000 in
theorem cut_impl (p q v : Int) (w : World) (h1 : 1 ≤ p) (h2 : p ≤ 12) (h3 : 0 ≤ q) (h4 : q ≤ 16) : Calls Try.prog 57 #[.agg #[.int .i64 p, .int .i64 q], .int .i64 v] w fun e w' => e = .returned (.tuple #[.int .i64 (cutV p q v), .bool (cutV p q v == v)]) ∧ Below w.heap.size w w' := by
  have hv := (fmtB_in h1 h2 h3 h4).symm
  obtain ⟨b1, b2⟩ := pw_bd h1 h2 h3 h4
  go_enter Try.func57, Try.ntmps57
  go_wp2_with fail
  refine (fmvb_impl hv _).mono ?_
  rintro e w1 ⟨rfl, mm, rfl⟩
  have hC : InF w w.heap.size p q { ((w.alloc (.cells #[.int .i64 p, .int .i64 q] 36)).alloc (.cells #[.int .i64 p, .int .i64 q] 36)).drewN mm with drawn := (((w.alloc (.cells #[.int .i64 p, .int .i64 q] 36)).alloc (.cells #[.int .i64 p, .int .i64 q] 36)).drewN mm).drawn + 1 } := ⟨(below_drewN (((Below.refl _ _).alloc (Nat.le_refl _) _).alloc (by simp) _) mm).drew, (((Blk.new _ _ _).alloc _).drewN mm).drew⟩
  go_wp2_with fail
  refine wp_region_quietC (C := InF w w.heap.size p q) (by kernel_rfl) (by kernel_rfl) hC ?_
  repeat
      (refine wpQuiet_step (fun K hK => ?_)
       go_simp
       first
         | (refine hK _ ?_; clear hK K)
         | (apply Exists.intro
            refine ⟨fun w' hw' => ?_, hK _ ?_⟩
            first
              | (obtain ⟨c0, c1, -, -, lz⟩ := blk2 hw'.2; go_simp; rfl)
              | (first | (go_at_call 73; refine (fm_least _ _ _ h1 h2 h3 h4).mono ?_; rintro e w2 ⟨rfl, rfl⟩; exact ⟨rfl, hw'.alloc _⟩) | (go_at_call 74; refine (fm_greatest _ _ _ h1 h2 h3 h4).mono ?_; rintro e w2 ⟨rfl, rfl⟩; exact ⟨rfl, hw'.alloc _⟩))
            clear hK K))
  refine wpQuiet_nil ?_
  intro w2 hw2
  rw [show (if pw p q - 1 < if v < -pw p q then -pw p q else v then pw p q - 1 else if v < -pw p q then -pw p q else v) = cutV p q v by unfold cutV; split <;> split <;> omega]
  generalize (if v < -pw p q then -pw p q else v) = z
  go_wp2_with fail
  go_ret2
  exact ⟨rfl, hw2.1⟩
set_option maxHeartbeats 2000000 in
theorem cut_spec (p q v : Int) (w : World) (h1 : 1 ≤ p) (h2 : p ≤ 12) (h3 : 0 ≤ q) (h4 : q ≤ 16) : Calls Try.prog 58 #[.agg #[.int .i64 p, .int .i64 q], .int .i64 v] w fun e w' => e = .returned (.tuple #[.int .i64 (cutV p q v), .bool (cutV p q v == v)]) ∧ Below w.heap.size w w' := by
  obtain ⟨b1, b2⟩ := pw_bd h1 h2 h3 h4
  have hw1 : IntKind.i64.wrap (-(pw p q - 1)) = -(pw p q - 1) := IntWalk.i64_in _ (by omega)
  have hw2 : IntKind.i64.wrap (-(pw p q - 1) - 1) = -(pw p q - 1) - 1 := IntWalk.i64_in _ (by omega)
  have hC : InF w w.heap.size p q { w.alloc (.cells #[.int .i64 p, .int .i64 q] 36) with drawn := (w.alloc (.cells #[.int .i64 p, .int .i64 q] 36)).drawn + 1 } := ⟨((Below.refl _ _).alloc (Nat.le_refl _) _).drew, (Blk.new _ _ _).drew⟩
  go_enter Try.func58, Try.ntmps58
  go_wp2_with fail
  refine wp_region_quietC (C := InF w w.heap.size p q) (by kernel_rfl) (by kernel_rfl) hC ?_
  repeat
      (refine wpQuiet_step (fun K hK => ?_)
       go_simp
       first
         | (refine hK _ ?_; clear hK K)
         | (apply Exists.intro
            refine ⟨fun w' hw' => ?_, hK _ ?_⟩
            first
              | (obtain ⟨c0, c1, -, -, lz⟩ := blk2 hw'.2; go_simp; rfl)
              | (first | (go_at_call 71; refine (fm_most _ _ _ h1 h2 h3 h4).mono ?_; rintro e w2 ⟨rfl, rfl⟩; exact ⟨rfl, hw'.alloc _⟩))
            clear hK K))
  refine wpQuiet_nil ?_
  intro w2 hw2'
  rw [show (if -(pw p q - 1) - 1 < if v < pw p q - 1 then v else pw p q - 1 then if v < pw p q - 1 then v else pw p q - 1 else -(pw p q - 1) - 1) = cutV p q v by unfold cutV; split <;> split <;> omega]
  generalize (if v < pw p q - 1 then v else pw p q - 1) = z
  go_wp2_with fail
  go_ret2
  exact ⟨rfl, hw2'.1⟩
/-- The fraction a / d as a stored number, before it is cut. -/
def frV (q a d : Int) : Int := rnd (a * 2 ^ q.toNat) d
theorem p16_bd {q a : Int} (h3 : 0 ≤ q) (h4 : q ≤ 16) (a0 : -1099511627776 ≤ a) (a1 : a ≤ 1099511627776) : -72057594037927936 ≤ a * 2 ^ q.toNat ∧ a * 2 ^ q.toNat ≤ 72057594037927936 := by
  have hk : q.toNat ≤ 16 := by omega
  have e1 : (2 : Nat) ^ q.toNat ≤ 2 ^ 16 := Nat.pow_le_pow_right (by omega) hk
  have e3 : 0 < (2 : Nat) ^ q.toNat := Nat.pow_pos (by decide)
  have e2 : ((2 ^ q.toNat : Nat) : Int) = (2 : Int) ^ q.toNat := by rw [Int.natCast_pow]; rfl
  have h : (a * 2 ^ q.toNat).natAbs ≤ 1099511627776 * 65536 := by
    rw [Int.natAbs_mul]
    exact Nat.mul_le_mul (by omega) (by omega)
  omega
set_option maxHeartbeats 2000000 in
theorem fo_impl_in (p q a d : Int) (w : World) (h1 : 1 ≤ p) (h2 : p ≤ 12) (h3 : 0 ≤ q) (h4 : q ≤ 16) (a0 : -1099511627776 ≤ a) (a1 : a ≤ 1099511627776) (d0 : 1 ≤ d) (d1 : d ≤ 1099511627776) :
    Calls Try.prog 28 #[.agg #[.int .i64 p, .int .i64 q], .int .i64 a, .int .i64 d] w fun e w' => e = .returned (.tuple #[.int .i64 (cutV p q (frV q a d)), .bool (cutV p q (frV q a d) == frV q a d)]) ∧ Below w.heap.size w w' := by
  have hv := (fmtB_in h1 h2 h3 h4).symm
  obtain ⟨m0, m1⟩ := p16_bd h3 h4 a0 a1
  have hw1 : IntKind.i64.wrap (a * 2 ^ q.toNat) = a * 2 ^ q.toNat := IntWalk.i64_in _ (by omega)
  have hw0 : IntKind.u64.wrap q = q := by rw [IntKind.wrap_u64]; omega
  have hC : InF w w.heap.size p q { ((w.alloc (.cells #[.int .i64 p, .int .i64 q] 36)).alloc (.cells #[.int .i64 p, .int .i64 q] 36)).drewN 0 with drawn := (((w.alloc (.cells #[.int .i64 p, .int .i64 q] 36)).alloc (.cells #[.int .i64 p, .int .i64 q] 36)).drewN 0).drawn + 1 } := ⟨(below_drewN (((Below.refl _ _).alloc (Nat.le_refl _) _).alloc (by simp) _) 0).drew, (((Blk.new _ _ _).alloc _).drewN 0).drew⟩
  go_enter Try.func28, Try.ntmps28
  go_wp2_with fail
  refine (fmvb_impl hv _).mono ?_
  rintro e w1 ⟨rfl, mm, hww⟩
  have hI : InF w w.heap.size p q w1 := by rw [hww]; exact ⟨below_drewN (((Below.refl _ _).alloc (Nat.le_refl _) _).alloc (by simp) _) mm, ((Blk.new _ _ _).alloc _).drewN mm⟩
  clear hww hC
  have hC : InF w w.heap.size p q { w1 with drawn := w1.drawn + 1 } := ⟨hI.1.drew, hI.2.drew⟩
  go_wp2_with (first | (go_at_call 34; refine (within_yes _ _ _ (by omega) (by omega) (by omega) (by omega)).mono ?_; rintro e w' ⟨rfl, rfl⟩) | (go_at_call 34; refine (within_no _ _ _ (by omega) (by omega) (by omega)).mono ?_; rintro e w' ⟨rfl, rfl⟩))
  refine wp_region_quietC (C := InF w w.heap.size p q) (by kernel_rfl) (by kernel_rfl) hC ?_
  repeat
      (refine wpQuiet_step (fun K hK => ?_)
       go_simp
       first
         | (refine hK _ ?_; clear hK K)
         | (apply Exists.intro
            refine ⟨fun w' hw' => ?_, hK _ ?_⟩
            first
              | (obtain ⟨c0, c1, -, -, lz⟩ := blk2 hw'.2; go_simp; rfl)
              | (first | (go_at_call 15; refine (rounddiv_any _ _ _ (by omega) (by omega) (by omega) (by omega)).mono ?_; rintro e w2 ⟨rfl, rfl⟩; exact ⟨rfl, hw'⟩) | (go_at_call 57; refine (cut_impl _ _ _ _ h1 h2 h3 h4).mono ?_; rintro e w2 ⟨rfl, hb⟩; exact ⟨rfl, bl_behind hb hw'.1, hw'.2.below hb hw'.2.lt⟩))
            clear hK K))
  refine wpQuiet_nil ?_
  intro w2 hw2
  go_wp2_with fail
  go_ret2
  exact ⟨rfl, hw2.1⟩
set_option maxHeartbeats 2000000 in
theorem fo_spec_in (p q a d : Int) (w : World) (h1 : 1 ≤ p) (h2 : p ≤ 12) (h3 : 0 ≤ q) (h4 : q ≤ 16) (a0 : -1099511627776 ≤ a) (a1 : a ≤ 1099511627776) (d0 : 1 ≤ d) (d1 : d ≤ 1099511627776) :
    Calls Try.prog 29 #[.agg #[.int .i64 p, .int .i64 q], .int .i64 a, .int .i64 d] w fun e w' => e = .returned (.tuple #[.int .i64 (cutV p q (frV q a d)), .bool (cutV p q (frV q a d) == frV q a d)]) ∧ Below w.heap.size w w' := by
  have hv := (fmtB_in h1 h2 h3 h4).symm
  obtain ⟨m0, m1⟩ := p16_bd h3 h4 a0 a1
  have hw1 : IntKind.i64.wrap (a * 2 ^ q.toNat) = a * 2 ^ q.toNat := IntWalk.i64_in _ (by omega)
  skip
  have hC : InF w w.heap.size p q { ((w.alloc (.cells #[.int .i64 p, .int .i64 q] 36)).alloc (.cells #[.int .i64 p, .int .i64 q] 36)).drewN 0 with drawn := (((w.alloc (.cells #[.int .i64 p, .int .i64 q] 36)).alloc (.cells #[.int .i64 p, .int .i64 q] 36)).drewN 0).drawn + 1 } := ⟨(below_drewN (((Below.refl _ _).alloc (Nat.le_refl _) _).alloc (by simp) _) 0).drew, (((Blk.new _ _ _).alloc _).drewN 0).drew⟩
  go_enter Try.func29, Try.ntmps29
  go_wp2_with fail
  refine (fmvb_spec hv _).mono ?_
  rintro e w1 ⟨rfl, mm, hww⟩
  have hI : InF w w.heap.size p q w1 := by rw [hww]; exact ⟨below_drewN (((Below.refl _ _).alloc (Nat.le_refl _) _).alloc (by simp) _) mm, ((Blk.new _ _ _).alloc _).drewN mm⟩
  clear hww hC
  have hC : InF w w.heap.size p q { w1 with drawn := w1.drawn + 1 } := ⟨hI.1.drew, hI.2.drew⟩
  go_wp2_with (first | (go_at_call 33; refine (l1in_yes _ _ _ _ (by omega) (by omega)).mono ?_; rintro e w' ⟨rfl, rfl⟩) | (go_at_call 33; refine (l1in_no _ _ _ _ (by omega)).mono ?_; rintro e w' ⟨rfl, rfl⟩))
  refine wp_region_quietC (C := InF w w.heap.size p q) (by kernel_rfl) (by kernel_rfl) hC ?_
  repeat
      (refine wpQuiet_step (fun K hK => ?_)
       go_simp
       first
         | (refine hK _ ?_; clear hK K)
         | (apply Exists.intro
            refine ⟨fun w' hw' => ?_, hK _ ?_⟩
            first
              | (obtain ⟨c0, c1, -, -, lz⟩ := blk2 hw'.2; go_simp; rfl)
              | (first | (go_at_call 46; refine (l1round_any _ _ _ (by omega) (by omega) (by omega) (by omega)).mono ?_; rintro e w2 ⟨rfl, rfl⟩; exact ⟨rfl, hw'⟩) | (go_at_call 58; refine (cut_spec _ _ _ _ h1 h2 h3 h4).mono ?_; rintro e w2 ⟨rfl, hb⟩; exact ⟨rfl, bl_behind hb hw'.1, hw'.2.below hb hw'.2.lt⟩))
            clear hK K))
  refine wpQuiet_nil ?_
  intro w2 hw2
  go_wp2_with fail
  go_ret2
  exact ⟨rfl, hw2.1⟩

end Go.Proofs.Ytpecffijmamddaa
