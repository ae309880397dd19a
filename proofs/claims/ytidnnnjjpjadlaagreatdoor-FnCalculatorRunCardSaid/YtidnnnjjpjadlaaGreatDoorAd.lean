/- AddStored of the program and of the reference. No condition: contracts for the walks of the laws. -/
import Derived.Test.YtidnnnjjpjadlaaGreatDoorFo
namespace Go.Proofs.YtidnnnjjpjadlaaGreatDoor
open Go.ChangeShapes Go.WideShapes Go.ChangeAt Go.RowKit

/-- What AddStored returns. -/
def adN (p q a b : Int) : Int := if fitB p q a = true ∧ fitB p q b = true then cutV p q (a + b) else 0
def adOk (p q a b : Int) : Bool := if fitB p q a = true ∧ fitB p q b = true then cutV p q (a + b) == a + b else false
theorem ad_in {p q a b : Int} (h1 : fitB p q a = true) (h2 : fitB p q b = true) : adN p q a b = cutV p q (a + b) ∧ adOk p q a b = (cutV p q (a + b) == a + b) := by unfold adN adOk; rw [if_pos ⟨h1, h2⟩, if_pos ⟨h1, h2⟩]; exact ⟨rfl, rfl⟩
theorem ad_out {p q a b : Int} (h : ¬ (fitB p q a = true ∧ fitB p q b = true)) : adN p q a b = 0 ∧ adOk p q a b = false := by unfold adN adOk; rw [if_neg h, if_neg h]; exact ⟨rfl, rfl⟩
theorem fitB_bd {p q n : Int} (h : fitB p q n = true) : (1 ≤ p ∧ p ≤ 12 ∧ 0 ≤ q ∧ q ≤ 16) ∧ -268435456 ≤ n ∧ n ≤ 268435456 := by
  obtain ⟨⟨h1, h2, h3, h4⟩, h5, h6⟩ := fitB_mk h
  have := pw_bd h1 h2 h3 h4
  exact ⟨⟨h1, h2, h3, h4⟩, by omega, by omega⟩
theorem blk3 {w : World} {g : Nat} {t : TypeId} {x y z : Value} (h : Blk w g t #[x, y, z]) :
    w.cell? ⟨g, 0, none⟩ = some x ∧ w.cell? ⟨g, 1, none⟩ = some y ∧ w.cell? ⟨g, 2, none⟩ = some z ∧ g < w.heap.size := ⟨h.cell 0, h.cell 1, h.cell 2, h.lt⟩
set_option maxHeartbeats 1000000 in
theorem clo_any (a b : Int) (w : World) (h1 : -268435456 ≤ a) (h2 : a ≤ 268435456) (h3 : -268435456 ≤ b) (h4 : b ≤ 268435456) : Calls Tryz.prog 90 #[.int .i64 a, .int .i64 b] w fun e w' => e = .returned (.int .i64 (a + b)) ∧ w = w' := by
  go_enter Tryz.func90, Tryz.ntmps90
  go_wp2_with fail
  go_ret
  exact ⟨rfl, rfl⟩
def InS (w : World) (p q a : Int) (w' : World) : Prop := Below w.heap.size w w' ∧ Blk w' w.heap.size 98 #[.int .i64 p, .int .i64 q, .int .i64 a]
theorem InS.below {w w1 w2 : World} {p q a : Int} (h : InS w p q a w1) (hb : Below w1.heap.size w1 w2) : InS w p q a w2 := ⟨bl_behind hb h.1, h.2.below hb h.2.lt⟩
theorem InS.drew {w w1 : World} {p q a : Int} (h : InS w p q a w1) : InS w p q a { w1 with drawn := w1.drawn + 1 } := ⟨h.1.drew, h.2.drew⟩
set_option maxHeartbeats 4000000 in
theorem join_any (p q a b : Int) (w : World) : Calls Tryz.prog 89 #[.agg #[.int .i64 p, .int .i64 q, .int .i64 a], .int .i64 b, .func (.func 90) #[] #[]] w fun e w' => e = .returned (.tuple #[.int .i64 (adN p q a b), .bool (adOk p q a b)]) ∧ Below w.heap.size w w' := by
  have FA := Lib.hid (fun w' => fits_impl p q a w')
  have FB := Lib.hid (fun w' => fits_impl p q b w')
  have hI : InS w p q a (w.alloc (.cells #[.int .i64 p, .int .i64 q, .int .i64 a] 98)) := ⟨(Below.refl _ _).alloc (Nat.le_refl _) _, Blk.new _ _ _⟩
  have HI := Lib.hid hI
  clear hI
  rcases ha : fitB p q a
  · obtain ⟨e1, e2⟩ := ad_out (p := p) (q := q) (a := a) (b := b) (by rw [ha]; simp)
    rw [e1, e2]
    rw [ha] at FA
    clear ha e1 e2 HI FB
    go_enter Tryz.func89, Tryz.ntmps89
    go_wp2_with fail
    refine (FA.out _).mono ?_
    rintro e w1 ⟨rfl, hb⟩
    have HB := Lib.hid (unalloc hb)
    clear hb
    go_wp2_with fail
    go_ret2
    exact ⟨rfl, HB.out⟩
  · rw [ha] at FA
    rcases hbf : fitB p q b
    · obtain ⟨e1, e2⟩ := ad_out (p := p) (q := q) (a := a) (b := b) (by rw [hbf]; simp)
      rw [e1, e2]
      rw [hbf] at FB
      clear ha hbf e1 e2
      go_enter Tryz.func89, Tryz.ntmps89
      go_wp2_with fail
      refine (FA.out _).mono ?_
      rintro e w1 ⟨rfl, hb⟩
      have hI := HI.out.below hb
      obtain ⟨c0, c1, c2, lz⟩ := blk3 hI.2
      have HI := Lib.hid hI
      clear hb hI
      go_wp2_with fail
      refine (FB.out _).mono ?_
      rintro e w2 ⟨rfl, hb⟩
      have HB := Lib.hid (HI.out.below hb).1
      clear hb
      go_wp2_with fail
      go_ret2
      exact ⟨rfl, HB.out⟩
    · obtain ⟨e1, e2⟩ := ad_in ha hbf
      rw [e1, e2]
      rw [hbf] at FB
      obtain ⟨⟨h1, h2, h3, h4⟩, a1, a2⟩ := fitB_bd ha
      obtain ⟨-, b1, b2⟩ := fitB_bd hbf
      clear ha hbf e1 e2
      go_enter Tryz.func89, Tryz.ntmps89
      go_wp2_with fail
      refine (FA.out _).mono ?_
      rintro e w1 ⟨rfl, hb⟩
      have hI := HI.out.below hb
      obtain ⟨c0, c1, c2, lz⟩ := blk3 hI.2
      have HI := Lib.hid hI
      clear hb hI
      go_wp2_with fail
      refine (FB.out _).mono ?_
      rintro e w2 ⟨rfl, hb⟩
      have hI := HI.out.below hb
      clear c0 c1 c2 lz
      obtain ⟨c0, c1, c2, lz⟩ := blk3 hI.2
      have HI := Lib.hid hI
      clear hb hI
      go_wp2_with fail
      refine wp_region_quietC (C := InS w p q a) (by kernel_rfl) (by kernel_rfl) HI.out.drew ?_
      repeat
        (refine wpQuiet_step (fun K hK => ?_)
         go_simp
         first
           | (refine hK _ ?_; clear hK K)
           | (apply Exists.intro
              refine ⟨fun w' hw' => ?_, hK _ ?_⟩
              first
                | (go_at_call 90; with_reducible refine Calls.mono (clo_any a b _ a1 a2 b1 b2) ?_; rintro e w2 ⟨rfl, rfl⟩; exact ⟨rfl, hw'⟩)
                | (go_at_call 82; with_reducible refine Calls.mono (cut_impl p q (a + b) _ h1 h2 h3 h4) ?_; rintro e w2 ⟨rfl, hb2⟩; exact ⟨rfl, hw'.below hb2⟩)
                | (obtain ⟨c0, c1, c2, lz⟩ := blk3 hw'.2; go_simp; rfl)
              clear hK K))
      refine wpQuiet_nil ?_
      intro w2 hw2
      go_wp2_with fail
      go_ret2
      exact ⟨rfl, hw2.1⟩
set_option maxHeartbeats 1000000 in
theorem add_impl (p q a b : Int) (w : World) : Calls Tryz.prog 60 #[.agg #[.int .i64 p, .int .i64 q], .int .i64 a, .int .i64 b] w fun e w' => e = .returned (.tuple #[.int .i64 (adN p q a b), .bool (adOk p q a b)]) ∧ Below w.heap.size w w' := by
  go_enter Tryz.func60, Tryz.ntmps60
  go_wp2_with fail
  refine (join_any _ _ _ _ _).mono ?_
  rintro e w1 ⟨rfl, hb⟩
  have HB := Lib.hid (unalloc hb)
  clear hb
  go_wp2_with fail
  go_ret2
  exact ⟨rfl, HB.out⟩
set_option maxHeartbeats 4000000 in
theorem add_spec (p q a b : Int) (w : World) : Calls Tryz.prog 30 #[.agg #[.int .i64 p, .int .i64 q], .int .i64 a, .int .i64 b] w fun e w' => e = .returned (.tuple #[.int .i64 (adN p q a b), .bool (adOk p q a b)]) ∧ Below w.heap.size w w' := by
  have FA := Lib.hid (fun w' => fits_spec p q a w')
  have FB := Lib.hid (fun w' => fits_spec p q b w')
  rcases ha : fitB p q a
  · obtain ⟨e1, e2⟩ := ad_out (p := p) (q := q) (a := a) (b := b) (by rw [ha]; simp)
    rw [e1, e2]
    rw [ha] at FA
    clear ha e1 e2 FB
    have B6 : ∀ w0, Calls Tryz.prog 66 #[.agg #[.int .i64 p, .int .i64 q], .int .i64 a, .int .i64 b] w0 fun e w' => e = .returned (.bool false) ∧ Below w0.heap.size w0 w' := fun w0 => by
      go_enter Tryz.func66, Tryz.ntmps66
      go_wp2_with fail
      refine (FA.out _).mono ?_
      rintro e w1 ⟨rfl, hb⟩
      have HB := Lib.hid (unalloc hb)
      clear hb
      go_wp2_with fail
      go_ret
      exact ⟨rfl, HB.out⟩
    have B6 := Lib.hid B6
    go_enter Tryz.func30, Tryz.ntmps30
    go_wp2_with fail
    refine (B6.out _).mono ?_
    rintro e w1 ⟨rfl, hb⟩
    have HB := Lib.hid (unalloc hb)
    clear hb
    go_wp2_with fail
    go_ret2
    exact ⟨rfl, HB.out⟩
  · rw [ha] at FA
    obtain ⟨y, hy⟩ : ∃ y, fitB p q b = y := ⟨_, rfl⟩
    rw [hy] at FB
    have B6 : ∀ w0, Calls Tryz.prog 66 #[.agg #[.int .i64 p, .int .i64 q], .int .i64 a, .int .i64 b] w0 fun e w' => e = .returned (.bool y) ∧ Below w0.heap.size w0 w' := fun w0 => by
      clear hy ha
      go_enter Tryz.func66, Tryz.ntmps66
      go_wp2_with fail
      refine (FA.out _).mono ?_
      rintro e w1 ⟨rfl, hb⟩
      have bx := (Blk.new w0 24 #[.int .i64 p, .int .i64 q]).below hb (by simp)
      obtain ⟨k0, k1, f0, f1, l0⟩ := blk2 bx
      have HB := Lib.hid (unalloc hb)
      clear hb bx
      go_wp2_with fail
      refine (FB.out _).mono ?_
      rintro e w2 ⟨rfl, hb⟩
      have HB2 := Lib.hid (bl_behind hb HB.out)
      clear hb
      go_wp2_with fail
      go_ret
      exact ⟨rfl, HB2.out⟩
    have B6 := Lib.hid B6
    cases y
    · obtain ⟨e1, e2⟩ := ad_out (p := p) (q := q) (a := a) (b := b) (by rw [hy]; simp)
      rw [e1, e2]
      clear ha hy e1 e2
      go_enter Tryz.func30, Tryz.ntmps30
      go_wp2_with fail
      refine (B6.out _).mono ?_
      rintro e w1 ⟨rfl, hb⟩
      have HB := Lib.hid (unalloc hb)
      clear hb
      go_wp2_with fail
      go_ret2
      exact ⟨rfl, HB.out⟩
    · obtain ⟨e1, e2⟩ := ad_in ha hy
      rw [e1, e2]
      obtain ⟨⟨h1, h2, h3, h4⟩, a1, a2⟩ := fitB_bd ha
      obtain ⟨-, b1, b2⟩ := fitB_bd hy
      clear ha hy e1 e2
      go_enter Tryz.func30, Tryz.ntmps30
      go_wp2_with fail
      refine (B6.out _).mono ?_
      rintro e w1 ⟨rfl, hb⟩
      have bx := (Blk.new w 24 #[.int .i64 p, .int .i64 q]).below hb (by simp)
      obtain ⟨k0, k1, f0, f1, l0⟩ := blk2 bx
      have HB := Lib.hid (unalloc hb)
      clear hb bx
      go_wp2_with fail
      refine (cut_spec p q (a + b) _ h1 h2 h3 h4).mono ?_
      rintro e w2 ⟨rfl, hb⟩
      have HB2 := Lib.hid (bl_behind hb HB.out)
      clear hb
      go_wp2_with fail
      go_ret2
      exact ⟨rfl, HB2.out⟩
set_option maxHeartbeats 1000000 in
theorem show_any (p q a n : Int) (x y : Bool) (w : World) : Calls Tryz.prog 59 #[.agg #[.int .i64 p, .int .i64 q, .int .i64 a, .bool x], .int .i64 n, .bool y] w fun e w' => e = .returned (.agg #[.int .i64 p, .int .i64 q, .int .i64 n, .bool (x || !y)]) ∧ Below w.heap.size w w' := by
  rcases x with _ | _ <;> rcases y with _ | _
  · go_enter Tryz.func59, Tryz.ntmps59
    go_wp2_with fail
    refine bodyPost_ret (v := .agg #[.int .i64 p, .int .i64 q, .int .i64 n, .bool true]) (by simp [results, Tryz.results59, go_sem]) rfl ?_
    exact ⟨rfl, (by repeat' (first | (with_reducible exact Below.refl _ _) | (with_reducible assumption) | (with_reducible refine below_drewN ?_ _) | (with_reducible refine Below.drew ?_) | (with_reducible refine bl_alloc ?_ _) | (with_reducible refine bl_set ?_ ?_ _) | go_size | omega))⟩
  · go_enter Tryz.func59, Tryz.ntmps59
    go_wp2_with fail
    refine bodyPost_ret (v := .agg #[.int .i64 p, .int .i64 q, .int .i64 n, .bool false]) (by simp [results, Tryz.results59, go_sem]) rfl ?_
    exact ⟨rfl, (by repeat' (first | (with_reducible exact Below.refl _ _) | (with_reducible assumption) | (with_reducible refine below_drewN ?_ _) | (with_reducible refine Below.drew ?_) | (with_reducible refine bl_alloc ?_ _) | (with_reducible refine bl_set ?_ ?_ _) | go_size | omega))⟩
  · go_enter Tryz.func59, Tryz.ntmps59
    go_wp2_with fail
    refine bodyPost_ret (v := .agg #[.int .i64 p, .int .i64 q, .int .i64 n, .bool true]) (by simp [results, Tryz.results59, go_sem]) rfl ?_
    exact ⟨rfl, (by repeat' (first | (with_reducible exact Below.refl _ _) | (with_reducible assumption) | (with_reducible refine below_drewN ?_ _) | (with_reducible refine Below.drew ?_) | (with_reducible refine bl_alloc ?_ _) | (with_reducible refine bl_set ?_ ?_ _) | go_size | omega))⟩
  · go_enter Tryz.func59, Tryz.ntmps59
    go_wp2_with fail
    refine bodyPost_ret (v := .agg #[.int .i64 p, .int .i64 q, .int .i64 n, .bool true]) (by simp [results, Tryz.results59, go_sem]) rfl ?_
    exact ⟨rfl, (by repeat' (first | (with_reducible exact Below.refl _ _) | (with_reducible assumption) | (with_reducible refine below_drewN ?_ _) | (with_reducible refine Below.drew ?_) | (with_reducible refine bl_alloc ?_ _) | (with_reducible refine bl_set ?_ ?_ _) | go_size | omega))⟩
end Go.Proofs.YtidnnnjjpjadlaaGreatDoor
