/- CalculatorLine of the reference: a calculator that is not valid; clear, cut; another format. No condition: contracts for the walks of the laws. -/
import Derived.Test.YtidnnnjjpjadlaaGreatDoorLs1
namespace Go.Proofs.YtidnnnjjpjadlaaGreatDoor
open Go.ChangeShapes Go.WideShapes Go.ChangeAt Go.RowKit

set_option maxRecDepth 100000 in
set_option maxHeartbeats 4000000 in
theorem lb_bad (p q a : Int) (x : Bool) (s : ByteArray) (w : World) (hf : fitB p q a = false) : Calls Tryz.prog 9 #[.agg #[.int .i64 p, .int .i64 q, .int .i64 a, .bool x], .string s] w fun e w' => e = .returned (.tuple #[.agg #[.int .i64 (0), .int .i64 (0), .int .i64 (0), .bool (false)], .string ⟨#[]⟩]) ∧ Below w.heap.size w w' := by
  have CV := Lib.hid (fun w' => calv_spec p q a x w' hf)
  have HI : Hid (InA w p q a x ((w.alloc (.cells #[.int .i64 p, .int .i64 q, .int .i64 a, .bool x] 26)).alloc (.cells #[.int .i64 0, .int .i64 0, .int .i64 0, .bool false] 26))) := Lib.hid (InA.start w p q a x)
  go_enter Tryz.func9, Tryz.ntmps9
  go_wp2_with fail
  refine (CV.out _).mono ?_
  rintro e w1 ⟨rfl, hb⟩
  have hI := HI.out.below hb
  clear HI hb
  obtain ⟨kx0, kx1, kx2, kx3⟩ := blk4c hI.c
  obtain ⟨d0, d1, d2, d3⟩ := blk4c hI.r
  obtain ⟨f0, f1, f2, f3⟩ := blk4f hI.r
  have HI := Lib.hid hI
  clear hI
  go_wp2_with fail
  have bk := Lib.hid ((((HI.out.r.set 0 (.int .i64 0)).set 1 (.int .i64 0)).set 2 (.int .i64 0)).set 3 (.bool false))
  have HB := Lib.hid HI.out.bel
  have BK : Blk _ (w.heap.size + 1) 26 #[.int .i64 (0), .int .i64 (0), .int .i64 (0), .bool (false)] := bk.out
  obtain ⟨q0, q1, q2, q3⟩ := blk4c BK
  refine bodyPost_ret (v := .tuple #[.agg #[.int .i64 (0), .int .i64 (0), .int .i64 (0), .bool (false)], .string ⟨#[]⟩]) (by simp [results, Tryz.results9, go_sem, q0, q1, q2, q3]) rfl ?_
  exact ⟨rfl, (by have hb := HB.out; repeat' (first | (with_reducible exact Below.refl _ _) | (with_reducible assumption) | (with_reducible refine below_drewN ?_ _) | (with_reducible refine Below.drew ?_) | (with_reducible refine bl_alloc ?_ _) | (with_reducible refine bl_set ?_ ?_ _) | go_size | omega))⟩
set_option maxRecDepth 100000 in
set_option maxHeartbeats 8000000 in
theorem lb_clear (p q a n : Int) (x gd : Bool) (u t : ByteArray) (w : World) (hf : fitB p q a = true) (hw : ∀ w', Calls Tryz.prog 28 #[.string ⟨#[99, 108, 101, 97, 114]⟩] w' fun e w'' => e = .returned (.tuple #[.string u, .string t]) ∧ ∃ n, w'' = w'.drewN n) (hread : ∀ w', Calls Tryz.prog 29 #[.agg #[.int .i64 p, .int .i64 q], .string t] w' fun e w'' => e = .returned (.tuple #[.int .i64 n, .bool gd]) ∧ Below w'.heap.size w' w'') : Calls Tryz.prog 9 #[.agg #[.int .i64 p, .int .i64 q, .int .i64 a, .bool x], .string ⟨#[99, 108, 101, 97, 114]⟩] w fun e w' => e = .returned (.tuple #[.agg #[.int .i64 (p), .int .i64 (q), .int .i64 (0), .bool (false)], .string ⟨#[48]⟩]) ∧ Below w.heap.size w w' := by
  have CV := Lib.hid (fun w' => calv_spec p q a x w' hf)
  have HW := Lib.hid hw
  have HRD := Lib.hid hread
  clear hw hread
  have HI : Hid (InA w p q a x ((w.alloc (.cells #[.int .i64 p, .int .i64 q, .int .i64 a, .bool x] 26)).alloc (.cells #[.int .i64 0, .int .i64 0, .int .i64 0, .bool false] 26))) := Lib.hid (InA.start w p q a x)
  go_enter Tryz.func9, Tryz.ntmps9
  go_wp2_with fail
  refine (CV.out _).mono ?_
  rintro e w1 ⟨rfl, hb⟩
  have hI := HI.out.below hb
  clear HI hb
  obtain ⟨kx0, kx1, kx2, kx3⟩ := blk4c hI.c
  have HI := Lib.hid hI
  clear hI
  go_wp2_with fail
  refine (HW.out _).mono ?_
  rintro e w2 ⟨rfl, nq, rfl⟩
  have HI := Lib.hid (HI.out.drewN nq)
  go_wp2_with fail
  refine (HRD.out _).mono ?_
  rintro e w3 ⟨rfl, hb⟩
  have hI := HI.out.below hb
  clear HI hb kx0 kx1 kx2 kx3
  obtain ⟨kx0, kx1, kx2, kx3⟩ := blk4c hI.c
  obtain ⟨d0, d1, d2, d3⟩ := blk4c hI.r
  obtain ⟨f0, f1, f2, f3⟩ := blk4f hI.r
  have hl1 := hI.c.lt
  have hl2 := hI.r.lt
  have HI0 := Lib.hid hI
  have HK := Lib.hid (Blk.new w3 24 #[.int .i64 p, .int .i64 q])
  have HI := Lib.hid (hI.alloc (.cells #[.int .i64 p, .int .i64 q] 24))
  have hle := hI.bel.size
  clear hI
  go_wp2_with fail
  have bk := Lib.hid (((((HI0.out.r.set 0 (.int .i64 p)).set 1 (.int .i64 q)).set 2 (.int .i64 0)).set 3 (.bool false)).alloc (.cells #[.int .i64 p, .int .i64 q] 24))
  have HB := Lib.hid HI0.out.bel
  have BK : Blk _ (w.heap.size + 1) 26 #[.int .i64 (p), .int .i64 (q), .int .i64 (0), .bool (false)] := bk.out
  obtain ⟨q0, q1, q2, q3⟩ := blk4c BK
  refine bodyPost_ret (v := .tuple #[.agg #[.int .i64 (p), .int .i64 (q), .int .i64 (0), .bool (false)], .string ⟨#[48]⟩]) (by simp [results, Tryz.results9, go_sem, q0, q1, q2, q3]) rfl ?_
  exact ⟨rfl, (by have hb := HB.out; repeat' (first | (with_reducible exact Below.refl _ _) | (with_reducible assumption) | (with_reducible refine below_drewN ?_ _) | (with_reducible refine Below.drew ?_) | (with_reducible refine bl_alloc ?_ _) | (with_reducible refine bl_set ?_ ?_ _) | go_size | omega))⟩
set_option maxRecDepth 100000 in
set_option maxHeartbeats 8000000 in
theorem lb_cut (p q a n : Int) (x gd : Bool) (u t : ByteArray) (w : World) (hf : fitB p q a = true) (hw : ∀ w', Calls Tryz.prog 28 #[.string ⟨#[99, 117, 116]⟩] w' fun e w'' => e = .returned (.tuple #[.string u, .string t]) ∧ ∃ n, w'' = w'.drewN n) (hread : ∀ w', Calls Tryz.prog 29 #[.agg #[.int .i64 p, .int .i64 q], .string t] w' fun e w'' => e = .returned (.tuple #[.int .i64 n, .bool gd]) ∧ Below w'.heap.size w' w'') : Calls Tryz.prog 9 #[.agg #[.int .i64 p, .int .i64 q, .int .i64 a, .bool x], .string ⟨#[99, 117, 116]⟩] w fun e w' => e = .returned (.tuple #[.agg #[.int .i64 (p), .int .i64 (q), .int .i64 (a), .bool (x)], .string (if x = true then ⟨#[121, 101, 115]⟩ else ⟨#[110, 111]⟩)]) ∧ Below w.heap.size w w' := by
  have CV := Lib.hid (fun w' => calv_spec p q a x w' hf)
  have HW := Lib.hid hw
  have HRD := Lib.hid hread
  clear hw hread
  have HI : Hid (InA w p q a x ((w.alloc (.cells #[.int .i64 p, .int .i64 q, .int .i64 a, .bool x] 26)).alloc (.cells #[.int .i64 0, .int .i64 0, .int .i64 0, .bool false] 26))) := Lib.hid (InA.start w p q a x)
  go_enter Tryz.func9, Tryz.ntmps9
  go_wp2_with fail
  refine (CV.out _).mono ?_
  rintro e w1 ⟨rfl, hb⟩
  have hI := HI.out.below hb
  clear HI hb
  obtain ⟨kx0, kx1, kx2, kx3⟩ := blk4c hI.c
  have HI := Lib.hid hI
  clear hI
  go_wp2_with fail
  refine (HW.out _).mono ?_
  rintro e w2 ⟨rfl, nq, rfl⟩
  have HI := Lib.hid (HI.out.drewN nq)
  go_wp2_with fail
  refine (HRD.out _).mono ?_
  rintro e w3 ⟨rfl, hb⟩
  have hI := HI.out.below hb
  clear HI hb kx0 kx1 kx2 kx3
  obtain ⟨kx0, kx1, kx2, kx3⟩ := blk4c hI.c
  obtain ⟨d0, d1, d2, d3⟩ := blk4c hI.r
  obtain ⟨f0, f1, f2, f3⟩ := blk4f hI.r
  have hl1 := hI.c.lt
  have hl2 := hI.r.lt
  have HI0 := Lib.hid hI
  have HK := Lib.hid (Blk.new w3 24 #[.int .i64 p, .int .i64 q])
  have HI := Lib.hid (hI.alloc (.cells #[.int .i64 p, .int .i64 q] 24))
  have hle := hI.bel.size
  clear hI
  cases x
  · go_wp2_with fail
    have bk := Lib.hid (((((HI0.out.r.set 0 (.int .i64 p)).set 1 (.int .i64 q)).set 2 (.int .i64 a)).set 3 (.bool false)).alloc (.cells #[.int .i64 p, .int .i64 q] 24))
    have HB := Lib.hid HI0.out.bel
    have BK : Blk _ (w.heap.size + 1) 26 #[.int .i64 (p), .int .i64 (q), .int .i64 (a), .bool (false)] := bk.out
    obtain ⟨q0, q1, q2, q3⟩ := blk4c BK
    refine bodyPost_ret (v := .tuple #[.agg #[.int .i64 (p), .int .i64 (q), .int .i64 (a), .bool (false)], .string ⟨#[110, 111]⟩]) (by simp [results, Tryz.results9, go_sem, q0, q1, q2, q3]) rfl ?_
    exact ⟨rfl, (by have hb := HB.out; repeat' (first | (with_reducible exact Below.refl _ _) | (with_reducible assumption) | (with_reducible refine below_drewN ?_ _) | (with_reducible refine Below.drew ?_) | (with_reducible refine bl_alloc ?_ _) | (with_reducible refine bl_set ?_ ?_ _) | go_size | omega))⟩
  · go_wp2_with fail
    have bk := Lib.hid (((((HI0.out.r.set 0 (.int .i64 p)).set 1 (.int .i64 q)).set 2 (.int .i64 a)).set 3 (.bool true)).alloc (.cells #[.int .i64 p, .int .i64 q] 24))
    have HB := Lib.hid HI0.out.bel
    have BK : Blk _ (w.heap.size + 1) 26 #[.int .i64 (p), .int .i64 (q), .int .i64 (a), .bool (true)] := bk.out
    obtain ⟨q0, q1, q2, q3⟩ := blk4c BK
    refine bodyPost_ret (v := .tuple #[.agg #[.int .i64 (p), .int .i64 (q), .int .i64 (a), .bool (true)], .string ⟨#[121, 101, 115]⟩]) (by simp [results, Tryz.results9, go_sem, q0, q1, q2, q3]) rfl ?_
    exact ⟨rfl, (by have hb := HB.out; repeat' (first | (with_reducible exact Below.refl _ _) | (with_reducible assumption) | (with_reducible refine below_drewN ?_ _) | (with_reducible refine Below.drew ?_) | (with_reducible refine bl_alloc ?_ _) | (with_reducible refine bl_set ?_ ?_ _) | go_size | omega))⟩
theorem InA.far {w w1 : World} {p q a : Int} {x : Bool} (h : InA w p q a x w1) {g : Nat} (hg : w.heap.size + 1 < g) (i : Nat) (v : Value) : InA w p q a x (w1.setCell ⟨g, i, none⟩ v) :=
  ⟨h.bel.setCell (p := ⟨g, i, none⟩) (by show w.heap.size ≤ g; omega) v, h.c.far (p := ⟨g, i, none⟩) (by show w.heap.size ≠ g; omega) v, h.r.far (p := ⟨g, i, none⟩) (by show w.heap.size + 1 ≠ g; omega) v⟩
attribute [local go_sem] quiet2 at2 upon2
set_option maxRecDepth 100000 in
set_option maxHeartbeats 8000000 in
theorem ls_fmt (p q a n A B N : Int) (x gd wh : Bool) (s t : ByteArray) (w : World) (hf : fitB p q a = true) (n1 : (s.toList == [99, 108, 101, 97, 114]) = false) (n2 : (s.toList == [99, 117, 116]) = false) (n3 : (s.toList == [115, 113, 114, 116]) = false) (n4 : (s.toList == [112, 111, 119, 101, 114]) = false) (n5 : (s.toList == [119, 104, 111, 108, 101]) = false) (hw : ∀ w', Calls Tryz.prog 28 #[.string s] w' fun e w'' => e = .returned (.tuple #[.string ⟨#[102, 111, 114, 109, 97, 116]⟩, .string t]) ∧ ∃ n, w'' = w'.drewN n) (hread : ∀ w', Calls Tryz.prog 29 #[.agg #[.int .i64 p, .int .i64 q], .string t] w' fun e w'' => e = .returned (.tuple #[.int .i64 n, .bool gd]) ∧ Below w'.heap.size w' w'')
    (hrf : ∀ w', Calls Tryz.prog 38 #[.string t] w' fun e w'' => e = .returned (.tuple #[.agg #[.int .i64 A, .int .i64 B], .bool true]) ∧ Below w'.heap.size w' w'')
    (htf : ∀ w', Calls Tryz.prog 39 #[.int .i64 a, .agg #[.int .i64 p, .int .i64 q], .agg #[.int .i64 A, .int .i64 B]] w' fun e w'' => e = .returned (.tuple #[.int .i64 N, .bool wh]) ∧ Below w'.heap.size w' w'') :
    Calls Tryz.prog 9 #[.agg #[.int .i64 p, .int .i64 q, .int .i64 a, .bool x], .string s] w fun e w' => e = .returned (.tuple #[.agg #[.int .i64 (A), .int .i64 (B), .int .i64 (N), .bool (x || !wh)], .string (sOf (sText A B N))]) ∧ Below w.heap.size w w' := by
  have HRF := Lib.hid hrf
  have HTF := Lib.hid htf
  clear hrf htf
  have CV := Lib.hid (fun w' => calv_spec p q a x w' hf)
  have HW := Lib.hid hw
  have HRD := Lib.hid hread
  clear hw hread
  have HI : Hid (InA w p q a x ((w.alloc (.cells #[.int .i64 p, .int .i64 q, .int .i64 a, .bool x] 26)).alloc (.cells #[.int .i64 0, .int .i64 0, .int .i64 0, .bool false] 26))) := Lib.hid (InA.start w p q a x)
  go_enter Tryz.func9, Tryz.ntmps9
  go_wp2_with fail
  refine (CV.out _).mono ?_
  rintro e w1 ⟨rfl, hb⟩
  have hI := HI.out.below hb
  clear HI hb
  obtain ⟨kx0, kx1, kx2, kx3⟩ := blk4c hI.c
  have HI := Lib.hid hI
  clear hI
  go_wp2_with fail
  refine (HW.out _).mono ?_
  rintro e w2 ⟨rfl, nq, rfl⟩
  have HI := Lib.hid (HI.out.drewN nq)
  go_wp2_with fail
  refine (HRD.out _).mono ?_
  rintro e w3 ⟨rfl, hb⟩
  have hI := HI.out.below hb
  clear HI hb kx0 kx1 kx2 kx3
  obtain ⟨kx0, kx1, kx2, kx3⟩ := blk4c hI.c
  obtain ⟨d0, d1, d2, d3⟩ := blk4c hI.r
  obtain ⟨f0, f1, f2, f3⟩ := blk4f hI.r
  have hl1 := hI.c.lt
  have hl2 := hI.r.lt
  have HI0 := Lib.hid hI
  have HK := Lib.hid (Blk.new w3 24 #[.int .i64 p, .int .i64 q])
  have HI := Lib.hid (hI.alloc (.cells #[.int .i64 p, .int .i64 q] 24))
  have hle := hI.bel.size
  clear hI
  have hgk : w.heap.size + 1 < w3.heap.size := by omega
  go_wp2_with fail
  refine (HRF.out _).mono ?_
  rintro e w4 ⟨rfl, hb⟩
  have hI := HI.out.below hb
  have hK := HK.out.below hb HK.out.lt
  have hlk : w3.heap.size < w4.heap.size := by have := hb.size; rw [World.size_alloc] at this; omega
  clear HI HI0 HK hb kx0 kx1 kx2 kx3 d0 d1 d2 d3 f0 f1 f2 f3
  obtain ⟨kx0, kx1, kx2, kx3⟩ := blk4c hI.c
  obtain ⟨b0, b1, bf0, bf1, bl⟩ := blk2 hK
  have hl3 := hI.c.lt
  have hl4 := hI.r.lt
  have hne1 : w3.heap.size ≠ w4.heap.size := by omega
  have hne2 : w4.heap.size ≠ w3.heap.size := by omega
  have hne3 : w.heap.size ≠ w3.heap.size := by omega
  have hne4 : w.heap.size ≠ w4.heap.size := by omega
  have HI2 := Lib.hid (((hI.far hgk 0 (.int .i64 A)).far hgk 1 (.int .i64 B)).alloc (.cells #[.int .i64 A, .int .i64 B] 24))
  have HK2 := Lib.hid (((hK.set 0 (.int .i64 A)).set 1 (.int .i64 B)).alloc (.cells #[.int .i64 A, .int .i64 B] 24))
  clear hI hK
  go_wp2_with fail
  refine (HTF.out _).mono ?_
  rintro e w5 ⟨rfl, hb⟩
  have hI := HI2.out.below hb
  have hK : Blk w5 w3.heap.size 24 #[.int .i64 A, .int .i64 B] := HK2.out.below hb HK2.out.lt
  have HL : Hid (∀ F, InL w p q a x w3.heap.size A B F 0 w5) := Lib.hid (fun F => ⟨hI.bel, hI.c, hI.r, hK⟩)
  clear HI2 HK2 hb kx0 kx1 kx2 kx3 b0 b1 bf0 bf1 bl hI hK
  cases x
  · go_wp2_with fail
    refine wp_region_quiet2 (InL w p q a false w3.heap.size A B #[.int .i64 (A), .int .i64 (B), .int .i64 (N), .bool (!wh)]) (mark 12) 0 (mark_comm 12) (by kernel_rfl) (by kernel_rfl) (HL.out _).drew ?_
    repeat
      (refine walk2_step (fun K hK => ?_)
       go_simp
       first
         | (refine hK _ _ ?_; clear hK K)
         | (apply Exists.intro
            refine ⟨fun k w' hw' => ?_, hK _ _ ?_⟩
            first
              | (go_at_call 40; with_reducible refine Calls.mono (st_spec A B (N) _) ?_; rintro e w2 ⟨rfl, hb2⟩; exact ⟨rfl, (hw'.below hb2).on (by decide)⟩)
              | (obtain ⟨c0, c1, c2, c3⟩ := blk4c hw'.c; obtain ⟨b0, b1, -, -, -⟩ := blk2 hw'.kd; go_simp; exact ⟨hw'.on (by decide), rfl⟩)
            clear hK K)
         | (refine ⟨⟨undef, fun k w' hw' => ?_⟩, hK _ _ ?_⟩
            (obtain ⟨c0, c1, c2, c3⟩ := blk4k hw'.r; obtain ⟨f0, f1, f2, f3⟩ := blk4f hw'.r; go_simp; exact hw'.put.here)
            clear hK K))
    refine walk2_nil ?_
    intro w9 hw9
    have BK : Blk w9 (w.heap.size + 1) 26 #[.int .i64 (A), .int .i64 (B), .int .i64 (N), .bool (!wh)] := hw9.r
    obtain ⟨q0, q1, q2, q3⟩ := blk4c BK
    have HB := Lib.hid hw9.bel
    clear hw9
    go_wp2_with fail
    refine bodyPost_ret (v := .tuple #[.agg #[.int .i64 (A), .int .i64 (B), .int .i64 (N), .bool (!wh)], .string (sOf (sText A B (N)))]) (by simp [results, Tryz.results9, go_sem, q0, q1, q2, q3]) rfl ?_
    exact ⟨rfl, (by have hb := HB.out; repeat' (first | (with_reducible exact Below.refl _ _) | (with_reducible assumption) | (with_reducible refine below_drewN ?_ _) | (with_reducible refine Below.drew ?_) | (with_reducible refine bl_alloc ?_ _) | (with_reducible refine bl_set ?_ ?_ _) | go_size | omega))⟩
  · go_wp2_with fail
    refine wp_region_quiet2 (InL w p q a true w3.heap.size A B #[.int .i64 (A), .int .i64 (B), .int .i64 (N), .bool (true)]) (mark 12) 0 (mark_comm 12) (by kernel_rfl) (by kernel_rfl) (HL.out _).drew ?_
    repeat
      (refine walk2_step (fun K hK => ?_)
       go_simp
       first
         | (refine hK _ _ ?_; clear hK K)
         | (apply Exists.intro
            refine ⟨fun k w' hw' => ?_, hK _ _ ?_⟩
            first
              | (go_at_call 40; with_reducible refine Calls.mono (st_spec A B (N) _) ?_; rintro e w2 ⟨rfl, hb2⟩; exact ⟨rfl, (hw'.below hb2).on (by decide)⟩)
              | (obtain ⟨c0, c1, c2, c3⟩ := blk4c hw'.c; obtain ⟨b0, b1, -, -, -⟩ := blk2 hw'.kd; go_simp; exact ⟨hw'.on (by decide), rfl⟩)
            clear hK K)
         | (refine ⟨⟨undef, fun k w' hw' => ?_⟩, hK _ _ ?_⟩
            (obtain ⟨c0, c1, c2, c3⟩ := blk4k hw'.r; obtain ⟨f0, f1, f2, f3⟩ := blk4f hw'.r; go_simp; exact hw'.put.here)
            clear hK K))
    refine walk2_nil ?_
    intro w9 hw9
    have BK : Blk w9 (w.heap.size + 1) 26 #[.int .i64 (A), .int .i64 (B), .int .i64 (N), .bool (true)] := hw9.r
    obtain ⟨q0, q1, q2, q3⟩ := blk4c BK
    have HB := Lib.hid hw9.bel
    clear hw9
    go_wp2_with fail
    refine bodyPost_ret (v := .tuple #[.agg #[.int .i64 (A), .int .i64 (B), .int .i64 (N), .bool (true)], .string (sOf (sText A B (N)))]) (by simp [results, Tryz.results9, go_sem, q0, q1, q2, q3]) rfl ?_
    exact ⟨rfl, (by have hb := HB.out; repeat' (first | (with_reducible exact Below.refl _ _) | (with_reducible assumption) | (with_reducible refine below_drewN ?_ _) | (with_reducible refine Below.drew ?_) | (with_reducible refine bl_alloc ?_ _) | (with_reducible refine bl_set ?_ ?_ _) | go_size | omega))⟩
end Go.Proofs.YtidnnnjjpjadlaaGreatDoor
