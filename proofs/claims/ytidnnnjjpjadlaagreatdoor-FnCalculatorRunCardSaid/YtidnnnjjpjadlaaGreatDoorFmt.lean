/- Formats and what fits them. No condition: contracts for the walks of the laws. -/
import Derived.Test.YtidnnnjjpjadlaaGreatDoorNum
namespace Go.Proofs.YtidnnnjjpjadlaaGreatDoor
open Go.ChangeShapes Go.WideShapes Go.ChangeAt Go.RowKit

theorem wp_region_quietC {P : Program} {C : World → Prop} {id : Nat} {Q : Exit → Act → World → Prop} {a : Act} {w : World} {l : List Oper} (hm : P.follows .mixedOrders = true) (hB : Region.lexB .any l.toArray = true) (hC : C { w with drawn := w.drawn + 1 })
    (h : wpQuiet P l.toArray C (fun a' => ∀ w', C w' → Q .normal a' w') l a) : (Code.region id l.toArray true).wp P Q a w :=
  wp_region_quiet (C := C) hm hB hC (by simpa using h)
theorem wr64 {n : Int} (h1 : -9223372036854775808 ≤ n) (h2 : n ≤ 9223372036854775807) : wrap64 n = n := by
  unfold wrap64; omega
def fmtB (p q : Int) : Bool := decide (1 ≤ p ∧ p ≤ 12 ∧ 0 ≤ q ∧ q ≤ 16)
def pw (p q : Int) : Int := 2 ^ (p + q).toNat
def fitB (p q n : Int) : Bool := decide ((1 ≤ p ∧ p ≤ 12 ∧ 0 ≤ q ∧ q ≤ 16) ∧ -pw p q ≤ n ∧ n ≤ pw p q - 1)
theorem fmtB_in {p q : Int} (h1 : 1 ≤ p) (h2 : p ≤ 12) (h3 : 0 ≤ q) (h4 : q ≤ 16) : true = fmtB p q := by unfold fmtB; simp [*]
theorem fmtB_out {p q : Int} (h : ¬ (1 ≤ p ∧ p ≤ 12 ∧ 0 ≤ q ∧ q ≤ 16)) : false = fmtB p q := by unfold fmtB; exact (decide_eq_false h).symm
theorem fmtB_mk {p q : Int} (h : fmtB p q = true) : 1 ≤ p ∧ p ≤ 12 ∧ 0 ≤ q ∧ q ≤ 16 := by unfold fmtB at h; simpa using h
theorem fitB_in {p q n : Int} (h1 : 1 ≤ p) (h2 : p ≤ 12) (h3 : 0 ≤ q) (h4 : q ≤ 16) (h5 : -pw p q ≤ n) (h6 : n ≤ pw p q - 1) : true = fitB p q n := by unfold fitB; exact (decide_eq_true ⟨⟨h1, h2, h3, h4⟩, h5, h6⟩).symm
theorem fitB_out {p q n : Int} (h : ¬ (1 ≤ p ∧ p ≤ 12 ∧ 0 ≤ q ∧ q ≤ 16)) : false = fitB p q n := by unfold fitB; exact (decide_eq_false (fun k => h k.1)).symm
theorem fitB_no {p q n : Int} (h : ¬ (-pw p q ≤ n ∧ n ≤ pw p q - 1)) : false = fitB p q n := by unfold fitB; exact (decide_eq_false (fun k => h k.2)).symm
theorem fitB_val {p q n : Int} (h1 : 1 ≤ p) (h2 : p ≤ 12) (h3 : 0 ≤ q) (h4 : q ≤ 16) : decide (-(pw p q - 1) - 1 ≤ n ∧ n ≤ pw p q - 1) = fitB p q n := by unfold fitB; rw [decide_eq_decide]; omega
theorem fitB_mk {p q n : Int} (h : fitB p q n = true) : (1 ≤ p ∧ p ≤ 12 ∧ 0 ≤ q ∧ q ≤ 16) ∧ -pw p q ≤ n ∧ n ≤ pw p q - 1 := by unfold fitB at h; simpa using h
theorem pw_bd {p q : Int} (h1 : 1 ≤ p) (h2 : p ≤ 12) (h3 : 0 ≤ q) (h4 : q ≤ 16) : 2 ≤ pw p q ∧ pw p q ≤ 268435456 := by
  unfold pw
  have hk : (p + q).toNat ≤ 28 ∧ 1 ≤ (p + q).toNat := by omega
  generalize (p + q).toNat = k at hk
  have e1 : (2 : Nat) ^ k ≤ 2 ^ 28 := Nat.pow_le_pow_right (by omega) hk.1
  have e3 : (2 : Nat) ^ 1 ≤ 2 ^ k := Nat.pow_le_pow_right (by omega) hk.2
  have e2 : ((2 ^ k : Nat) : Int) = (2 : Int) ^ k := by rw [Int.natCast_pow]; rfl
  omega
set_option maxHeartbeats 400000 in
theorem fmv_impl (p q : Int) (w : World) : Calls Tryz.prog 75 #[.agg #[.int .i64 p, .int .i64 q]] w fun e w' => e = .returned (.bool (fmtB p q)) ∧ ∃ m, w' = (w.alloc (.cells #[.int .i64 p, .int .i64 q] 24)).drewN m := by
  rcases (by omega : (1 ≤ p ∧ p ≤ 12 ∧ 0 ≤ q ∧ q ≤ 16) ∨ p < 1 ∨ (1 ≤ p ∧ 12 < p) ∨ (1 ≤ p ∧ p ≤ 12 ∧ q < 0) ∨ (1 ≤ p ∧ p ≤ 12 ∧ 0 ≤ q ∧ 16 < q)) with ⟨h1, h2, h3, h4⟩ | h1 | ⟨h1, h2⟩ | ⟨h1, h2, h3⟩ | ⟨h1, h2, h3, h4⟩
  · have HE := Lib.hid (fmtB_in h1 h2 h3 h4)
    go_enter Tryz.func75, Tryz.ntmps75
    go_wp2_with fail
    go_ret
    exact ⟨ret_bool (by first | exact HE.out | (rw [← HE.out]; simp; done) | (rw [← HE.out]; simp; omega)), 0, rfl⟩
  all_goals
    have HE := Lib.hid (fmtB_out (p := p) (q := q) (by omega))
    go_enter Tryz.func75, Tryz.ntmps75
    go_wp2_with fail
    go_ret
    exact ⟨ret_bool (by first | exact HE.out | (rw [← HE.out]; simp; done) | (rw [← HE.out]; simp; omega)), 0, rfl⟩
theorem fmvb_impl {p q : Int} {b : Bool} (h : fmtB p q = b) (w : World) : Calls Tryz.prog 75 #[.agg #[.int .i64 p, .int .i64 q]] w fun e w' => e = .returned (.bool b) ∧ ∃ m, w' = (w.alloc (.cells #[.int .i64 p, .int .i64 q] 24)).drewN m := h ▸ fmv_impl p q w

set_option maxHeartbeats 400000 in
theorem fmv_spec (p q : Int) (w : World) : Calls Tryz.prog 64 #[.agg #[.int .i64 p, .int .i64 q]] w fun e w' => e = .returned (.bool (fmtB p q)) ∧ ∃ m, w' = (w.alloc (.cells #[.int .i64 p, .int .i64 q] 24)).drewN m := by
  rcases (by omega : (1 ≤ p ∧ p ≤ 12 ∧ 0 ≤ q ∧ q ≤ 16) ∨ p < 1 ∨ (1 ≤ p ∧ 12 < p) ∨ (1 ≤ p ∧ p ≤ 12 ∧ q < 0) ∨ (1 ≤ p ∧ p ≤ 12 ∧ 0 ≤ q ∧ 16 < q)) with ⟨h1, h2, h3, h4⟩ | h1 | ⟨h1, h2⟩ | ⟨h1, h2, h3⟩ | ⟨h1, h2, h3, h4⟩
  · have HE := Lib.hid (fmtB_in h1 h2 h3 h4)
    go_enter Tryz.func64, Tryz.ntmps64
    go_wp2_with (first | (go_at_call 73; refine (l1in_yes _ _ _ _ (by omega) (by omega)).mono ?_; rintro e w' ⟨rfl, rfl⟩) | (go_at_call 73; refine (l1in_no _ _ _ _ (by omega)).mono ?_; rintro e w' ⟨rfl, rfl⟩))
    go_ret
    exact ⟨ret_bool (by first | exact HE.out | (rw [← HE.out]; simp; done) | (rw [← HE.out]; simp; omega)), 0, rfl⟩
  all_goals
    have HE := Lib.hid (fmtB_out (p := p) (q := q) (by omega))
    go_enter Tryz.func64, Tryz.ntmps64
    go_wp2_with (first | (go_at_call 73; refine (l1in_yes _ _ _ _ (by omega) (by omega)).mono ?_; rintro e w' ⟨rfl, rfl⟩) | (go_at_call 73; refine (l1in_no _ _ _ _ (by omega)).mono ?_; rintro e w' ⟨rfl, rfl⟩))
    go_ret
    exact ⟨ret_bool (by first | exact HE.out | (rw [← HE.out]; simp; done) | (rw [← HE.out]; simp; omega)), 0, rfl⟩
theorem fmvb_spec {p q : Int} {b : Bool} (h : fmtB p q = b) (w : World) : Calls Tryz.prog 64 #[.agg #[.int .i64 p, .int .i64 q]] w fun e w' => e = .returned (.bool b) ∧ ∃ m, w' = (w.alloc (.cells #[.int .i64 p, .int .i64 q] 24)).drewN m := h ▸ fmv_spec p q w

set_option maxHeartbeats 400000 in
theorem fm_least (p q : Int) (w : World) (h1 : 1 ≤ p) (h2 : p ≤ 12) (h3 : 0 ≤ q) (h4 : q ≤ 16) : Calls Tryz.prog 76 #[.agg #[.int .i64 p, .int .i64 q]] w fun e w' => e = .returned (.int .i64 (-pw p q)) ∧ w' = w.alloc (.cells #[.int .i64 p, .int .i64 q] 24) := by
  obtain ⟨b1, b2⟩ := pw_bd h1 h2 h3 h4
  unfold pw at *
  have hw1 : wrap64 (2 ^ (p + q).toNat) = 2 ^ (p + q).toNat := wr64 (by omega) (by omega)
  have hw2 : wrap64 (-2 ^ (p + q).toNat) = -2 ^ (p + q).toNat := wr64 (by omega) (by omega)
  go_enter Tryz.func76, Tryz.ntmps76
  go_wp2
  go_ret
  exact ⟨rfl, rfl⟩

set_option maxHeartbeats 400000 in
theorem fm_greatest (p q : Int) (w : World) (h1 : 1 ≤ p) (h2 : p ≤ 12) (h3 : 0 ≤ q) (h4 : q ≤ 16) : Calls Tryz.prog 77 #[.agg #[.int .i64 p, .int .i64 q]] w fun e w' => e = .returned (.int .i64 (pw p q - 1)) ∧ w' = w.alloc (.cells #[.int .i64 p, .int .i64 q] 24) := by
  obtain ⟨b1, b2⟩ := pw_bd h1 h2 h3 h4
  unfold pw at *
  have hw1 : wrap64 (2 ^ (p + q).toNat) = 2 ^ (p + q).toNat := wr64 (by omega) (by omega)
  have hw2 : wrap64 (-2 ^ (p + q).toNat) = -2 ^ (p + q).toNat := wr64 (by omega) (by omega)
  go_enter Tryz.func77, Tryz.ntmps77
  go_wp2
  go_ret
  exact ⟨rfl, rfl⟩

set_option maxHeartbeats 400000 in
theorem fm_most (p q : Int) (w : World) (h1 : 1 ≤ p) (h2 : p ≤ 12) (h3 : 0 ≤ q) (h4 : q ≤ 16) : Calls Tryz.prog 71 #[.agg #[.int .i64 p, .int .i64 q]] w fun e w' => e = .returned (.int .i64 (pw p q - 1)) ∧ w' = w.alloc (.cells #[.int .i64 p, .int .i64 q] 24) := by
  obtain ⟨b1, b2⟩ := pw_bd h1 h2 h3 h4
  unfold pw at *
  have hw1 : wrap64 (2 ^ (p + q).toNat) = 2 ^ (p + q).toNat := wr64 (by omega) (by omega)
  have hw2 : wrap64 (-2 ^ (p + q).toNat) = -2 ^ (p + q).toNat := wr64 (by omega) (by omega)
  go_enter Tryz.func71, Tryz.ntmps71
  go_wp2
  go_ret
  exact ⟨rfl, rfl⟩

set_option maxHeartbeats 1000000 in
theorem fits_impl (p q n : Int) (w : World) : Calls Tryz.prog 43 #[.agg #[.int .i64 p, .int .i64 q], .int .i64 n] w fun e w' => e = .returned (.bool (fitB p q n)) ∧ Below w.heap.size w w' := by
  rcases (by omega : (1 ≤ p ∧ p ≤ 12 ∧ 0 ≤ q ∧ q ≤ 16) ∨ ¬ (1 ≤ p ∧ p ≤ 12 ∧ 0 ≤ q ∧ q ≤ 16)) with ⟨h1, h2, h3, h4⟩ | h1
  · obtain ⟨b1, b2⟩ := pw_bd h1 h2 h3 h4
    have hv := (fmtB_in h1 h2 h3 h4).symm
    rcases (by omega : (-pw p q ≤ n ∧ n ≤ pw p q - 1) ∨ n < -pw p q ∨ (-pw p q ≤ n ∧ pw p q - 1 < n)) with ⟨h5, h6⟩ | h5 | ⟨h5, h6⟩
    · have HE := Lib.hid (fitB_in (n := n) h1 h2 h3 h4 h5 h6)
      go_enter Tryz.func43, Tryz.ntmps43
      go_wp2_with (first | (go_at_call 75; refine (fmvb_impl hv _).mono ?_; rintro e w' ⟨rfl, mm, rfl⟩) | (go_at_call 76; refine (fm_least _ _ _ (by omega) (by omega) (by omega) (by omega)).mono ?_; rintro e w' ⟨rfl, rfl⟩) | (go_at_call 77; refine (fm_greatest _ _ _ (by omega) (by omega) (by omega) (by omega)).mono ?_; rintro e w' ⟨rfl, rfl⟩))
      go_ret
      exact ⟨ret_bool (by first | exact HE.out | (rw [← HE.out]; simp; done) | (rw [← HE.out]; simp; omega)), (by repeat' (first | (with_reducible exact Below.refl _ _) | (with_reducible assumption) | (with_reducible refine below_drewN ?_ _) | (with_reducible refine Below.drew ?_) | (with_reducible refine bl_alloc ?_ _) | (with_reducible refine bl_set ?_ ?_ _) | go_size | omega))⟩
    all_goals
      have HE := Lib.hid (fitB_no (p := p) (q := q) (n := n) (by omega))
      go_enter Tryz.func43, Tryz.ntmps43
      go_wp2_with (first | (go_at_call 75; refine (fmvb_impl hv _).mono ?_; rintro e w' ⟨rfl, mm, rfl⟩) | (go_at_call 76; refine (fm_least _ _ _ (by omega) (by omega) (by omega) (by omega)).mono ?_; rintro e w' ⟨rfl, rfl⟩) | (go_at_call 77; refine (fm_greatest _ _ _ (by omega) (by omega) (by omega) (by omega)).mono ?_; rintro e w' ⟨rfl, rfl⟩))
      go_ret
      exact ⟨ret_bool (by first | exact HE.out | (rw [← HE.out]; simp; done) | (rw [← HE.out]; simp; omega)), (by repeat' (first | (with_reducible exact Below.refl _ _) | (with_reducible assumption) | (with_reducible refine below_drewN ?_ _) | (with_reducible refine Below.drew ?_) | (with_reducible refine bl_alloc ?_ _) | (with_reducible refine bl_set ?_ ?_ _) | go_size | omega))⟩
  · have hv := (fmtB_out h1).symm
    have HE := Lib.hid (fitB_out (n := n) h1)
    go_enter Tryz.func43, Tryz.ntmps43
    go_wp2_with (first | (go_at_call 75; refine (fmvb_impl hv _).mono ?_; rintro e w' ⟨rfl, mm, rfl⟩) | (go_at_call 76; refine (fm_least _ _ _ (by omega) (by omega) (by omega) (by omega)).mono ?_; rintro e w' ⟨rfl, rfl⟩) | (go_at_call 77; refine (fm_greatest _ _ _ (by omega) (by omega) (by omega) (by omega)).mono ?_; rintro e w' ⟨rfl, rfl⟩))
    go_ret
    exact ⟨ret_bool (by first | exact HE.out | (rw [← HE.out]; simp; done) | (rw [← HE.out]; simp; omega)), (by repeat' (first | (with_reducible exact Below.refl _ _) | (with_reducible assumption) | (with_reducible refine below_drewN ?_ _) | (with_reducible refine Below.drew ?_) | (with_reducible refine bl_alloc ?_ _) | (with_reducible refine bl_set ?_ ?_ _) | go_size | omega))⟩

theorem l1in_val (n lo hi : Int) (w : World) : Calls Tryz.prog 73 #[.int .i64 n, .int .i64 lo, .int .i64 hi] w fun e w' => e = .returned (.bool (decide (lo ≤ n ∧ n ≤ hi))) ∧ w = w' := by
  by_cases h : lo ≤ n ∧ n ≤ hi
  · rw [decide_eq_true h]; exact l1in_yes _ _ _ _ h.1 h.2
  · rw [decide_eq_false h]; exact l1in_no _ _ _ _ (by omega)

/-- The worlds in the midst of a walk that makes memory alone: block f holds a format. -/
def InF (w : World) (f : Nat) (p q : Int) (w' : World) : Prop := Below w.heap.size w w' ∧ Blk w' f 24 #[.int .i64 p, .int .i64 q]
theorem InF.alloc {w w' : World} {f : Nat} {p q : Int} (h : InF w f p q w') (o : Obj) : InF w f p q (w'.alloc o) := ⟨h.1.alloc h.1.size o, h.2.alloc o⟩
theorem InF.drewN {w w' : World} {f : Nat} {p q : Int} (h : InF w f p q w') (n : Nat) : InF w f p q (w'.drewN n) := ⟨below_drewN h.1 n, h.2.drewN n⟩
set_option maxHeartbeats 4000000 in
theorem fits_spec (p q n : Int) (w : World) : Calls Tryz.prog 41 #[.agg #[.int .i64 p, .int .i64 q], .int .i64 n] w fun e w' => e = .returned (.bool (fitB p q n)) ∧ Below w.heap.size w w' := by
  have hC : InF w w.heap.size p q { w.alloc (.cells #[.int .i64 p, .int .i64 q] 24) with drawn := (w.alloc (.cells #[.int .i64 p, .int .i64 q] 24)).drawn + 1 } := ⟨((Below.refl _ _).alloc (Nat.le_refl _) _).drew, (Blk.new _ _ _).drew⟩
  rcases (by omega : (1 ≤ p ∧ p ≤ 12 ∧ 0 ≤ q ∧ q ≤ 16) ∨ ¬ (1 ≤ p ∧ p ≤ 12 ∧ 0 ≤ q ∧ q ≤ 16)) with ⟨h1, h2, h3, h4⟩ | h1
  · obtain ⟨b1, b2⟩ := pw_bd h1 h2 h3 h4
    have hv := (fmtB_in h1 h2 h3 h4).symm
    have HE := Lib.hid (fitB_val (n := n) h1 h2 h3 h4)
    have hw1 : IntKind.i64.wrap (-(pw p q - 1)) = -(pw p q - 1) := IntWalk.i64_in _ (by omega)
    have hw2 : IntKind.i64.wrap (-(pw p q - 1) - 1) = -(pw p q - 1) - 1 := IntWalk.i64_in _ (by omega)
    go_enter Tryz.func41, Tryz.ntmps41
    go_wp2_with fail
    refine wp_region_quietC (C := InF w w.heap.size p q) (by kernel_rfl) (by kernel_rfl) hC ?_
    repeat
      (refine wpQuiet_step (fun K hK => ?_)
       go_simp
       first
         | (refine hK _ ?_; clear hK K)
         | (apply Exists.intro
            refine ⟨fun w' hw' => ?_, hK _ ?_⟩
            first
              | (obtain ⟨c0, c1, -, -, lz⟩ := blk2 hw'.2; go_simp; rfl)
              | (first | (go_at_call 64; refine (fmvb_spec hv _).mono ?_; rintro e w2 ⟨rfl, mm, rfl⟩; exact ⟨rfl, (hw'.alloc _).drewN _⟩) | (go_at_call 71; refine (fm_most _ _ _ h1 h2 h3 h4).mono ?_; rintro e w2 ⟨rfl, rfl⟩; exact ⟨rfl, hw'.alloc _⟩) | (go_at_call 73; refine (l1in_val _ _ _ _).mono ?_; rintro e w2 ⟨rfl, rfl⟩; exact ⟨rfl, hw'⟩))
            clear hK K))
    refine wpQuiet_nil ?_
    intro w2 hw2
    go_wp2_with fail
    go_ret
    exact ⟨ret_bool (by first | exact HE.out | (rw [← HE.out]; simp; done) | (rw [← HE.out]; simp; omega)), hw2.1⟩
  · have hv := (fmtB_out h1).symm
    have HE := Lib.hid (fitB_out (n := n) h1)
    go_enter Tryz.func41, Tryz.ntmps41
    go_wp2_with fail
    refine wp_region_quietC (C := InF w w.heap.size p q) (by kernel_rfl) (by kernel_rfl) hC ?_
    repeat
      (refine wpQuiet_step (fun K hK => ?_)
       go_simp
       first
         | (refine hK _ ?_; clear hK K)
         | (apply Exists.intro
            refine ⟨fun w' hw' => ?_, hK _ ?_⟩
            first
              | (obtain ⟨c0, c1, -, -, lz⟩ := blk2 hw'.2; go_simp; rfl)
              | (first | (go_at_call 64; refine (fmvb_spec hv _).mono ?_; rintro e w2 ⟨rfl, mm, rfl⟩; exact ⟨rfl, (hw'.alloc _).drewN _⟩))
            clear hK K))
    refine wpQuiet_nil ?_
    intro w2 hw2
    go_wp2_with fail
    go_ret
    exact ⟨ret_bool (by first | exact HE.out | (rw [← HE.out]; simp; done) | (rw [← HE.out]; simp; omega)), hw2.1⟩


end Go.Proofs.YtidnnnjjpjadlaaGreatDoor
