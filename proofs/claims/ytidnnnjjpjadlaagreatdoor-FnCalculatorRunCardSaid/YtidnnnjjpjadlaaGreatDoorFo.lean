/- Cut numbers. No condition: contracts for the walks of the laws. -/
import Derived.Test.YtidnnnjjpjadlaaGreatDoorFmt
namespace Go.Proofs.YtidnnnjjpjadlaaGreatDoor
open Go.ChangeShapes Go.WideShapes Go.ChangeAt Go.RowKit

def cutV (p q v : Int) : Int := min (max v (-pw p q)) (pw p q - 1)
theorem cutV_1 {p q v m : Int} (h : m = if (if v < -pw p q then -pw p q else v) > pw p q - 1 then pw p q - 1 else (if v < -pw p q then -pw p q else v)) : m = cutV p q v := by
  unfold cutV; rw [h]; split <;> split <;> omega
set_option maxHeartbeats 2000000 in
theorem cut_impl (p q v : Int) (w : World) (h1 : 1 ≤ p) (h2 : p ≤ 12) (h3 : 0 ≤ q) (h4 : q ≤ 16) : Calls Tryz.prog 82 #[.agg #[.int .i64 p, .int .i64 q], .int .i64 v] w fun e w' => e = .returned (.tuple #[.int .i64 (cutV p q v), .bool (cutV p q v == v)]) ∧ Below w.heap.size w w' := by
  have hv := (fmtB_in h1 h2 h3 h4).symm
  obtain ⟨b1, b2⟩ := pw_bd h1 h2 h3 h4
  go_enter Tryz.func82, Tryz.ntmps82
  go_wp2_with fail
  refine (fmvb_impl hv _).mono ?_
  rintro e w1 ⟨rfl, mm, rfl⟩
  have hC : InF w w.heap.size p q { ((w.alloc (.cells #[.int .i64 p, .int .i64 q] 24)).alloc (.cells #[.int .i64 p, .int .i64 q] 24)).drewN mm with drawn := (((w.alloc (.cells #[.int .i64 p, .int .i64 q] 24)).alloc (.cells #[.int .i64 p, .int .i64 q] 24)).drewN mm).drawn + 1 } := ⟨(below_drewN (((Below.refl _ _).alloc (Nat.le_refl _) _).alloc (by simp) _) mm).drew, (((Blk.new _ _ _).alloc _).drewN mm).drew⟩
  go_wp2_with fail
  refine wp_region_quietC (C := InF w w.heap.size p q) (by kernel_rfl) (by kernel_rfl) hC ?_
  repeat
      (refine wpQuiet_step (fun K hK => ?_)
       go_simp
       first
         | (refine hK _ ?_; clear hK K)
         | (apply Exists.intro
            refine ⟨fun w' hw' => ?_, hK _ ?_⟩
            first
              | (obtain ⟨c0, c1, -, -, lz⟩ := blk2 hw'.2; go_simp; rfl)
              | (first | (go_at_call 76; refine (fm_least _ _ _ h1 h2 h3 h4).mono ?_; rintro e w2 ⟨rfl, rfl⟩; exact ⟨rfl, hw'.alloc _⟩) | (go_at_call 77; refine (fm_greatest _ _ _ h1 h2 h3 h4).mono ?_; rintro e w2 ⟨rfl, rfl⟩; exact ⟨rfl, hw'.alloc _⟩))
            clear hK K))
  refine wpQuiet_nil ?_
  intro w2 hw2
  rw [show (if pw p q - 1 < if v < -pw p q then -pw p q else v then pw p q - 1 else if v < -pw p q then -pw p q else v) = cutV p q v by unfold cutV; split <;> split <;> omega]
  generalize (if v < -pw p q then -pw p q else v) = z
  go_wp2_with fail
  go_ret2
  exact ⟨rfl, hw2.1⟩
set_option maxHeartbeats 2000000 in
theorem cut_spec (p q v : Int) (w : World) (h1 : 1 ≤ p) (h2 : p ≤ 12) (h3 : 0 ≤ q) (h4 : q ≤ 16) : Calls Tryz.prog 36 #[.agg #[.int .i64 p, .int .i64 q], .int .i64 v] w fun e w' => e = .returned (.tuple #[.int .i64 (cutV p q v), .bool (cutV p q v == v)]) ∧ Below w.heap.size w w' := by
  obtain ⟨b1, b2⟩ := pw_bd h1 h2 h3 h4
  have hw1 : IntKind.i64.wrap (-(pw p q - 1)) = -(pw p q - 1) := IntWalk.i64_in _ (by omega)
  have hw2 : IntKind.i64.wrap (-(pw p q - 1) - 1) = -(pw p q - 1) - 1 := IntWalk.i64_in _ (by omega)
  have hC : InF w w.heap.size p q { w.alloc (.cells #[.int .i64 p, .int .i64 q] 24) with drawn := (w.alloc (.cells #[.int .i64 p, .int .i64 q] 24)).drawn + 1 } := ⟨((Below.refl _ _).alloc (Nat.le_refl _) _).drew, (Blk.new _ _ _).drew⟩
  go_enter Tryz.func36, Tryz.ntmps36
  go_wp2_with fail
  refine wp_region_quietC (C := InF w w.heap.size p q) (by kernel_rfl) (by kernel_rfl) hC ?_
  repeat
      (refine wpQuiet_step (fun K hK => ?_)
       go_simp
       first
         | (refine hK _ ?_; clear hK K)
         | (apply Exists.intro
            refine ⟨fun w' hw' => ?_, hK _ ?_⟩
            first
              | (obtain ⟨c0, c1, -, -, lz⟩ := blk2 hw'.2; go_simp; rfl)
              | (first | (go_at_call 71; refine (fm_most _ _ _ h1 h2 h3 h4).mono ?_; rintro e w2 ⟨rfl, rfl⟩; exact ⟨rfl, hw'.alloc _⟩))
            clear hK K))
  refine wpQuiet_nil ?_
  intro w2 hw2'
  rw [show (if -(pw p q - 1) - 1 < if v < pw p q - 1 then v else pw p q - 1 then if v < pw p q - 1 then v else pw p q - 1 else -(pw p q - 1) - 1) = cutV p q v by unfold cutV; split <;> split <;> omega]
  generalize (if v < pw p q - 1 then v else pw p q - 1) = z
  go_wp2_with fail
  go_ret2
  exact ⟨rfl, hw2'.1⟩
end Go.Proofs.YtidnnnjjpjadlaaGreatDoor
