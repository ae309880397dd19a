/- CalculatorLine of the reference: sub, mul, div. No condition: contracts for the walks of the laws. -/
import Derived.Test.YtidnnnjjpjadlaaGreatDoorLs1
namespace Go.Proofs.YtidnnnjjpjadlaaGreatDoor
open Go.ChangeShapes Go.WideShapes Go.ChangeAt Go.RowKit

attribute [local go_sem] quiet2 at2 upon2
set_option maxRecDepth 100000 in
set_option maxHeartbeats 8000000 in
theorem ls_sub (p q a n : Int) (x : Bool) (s t : ByteArray) (w : World) (hf : fitB p q a = true) (hn : fitB p q n = true) (n1 : (s.toList == [99, 108, 101, 97, 114]) = false) (n2 : (s.toList == [99, 117, 116]) = false) (hw : ∀ w', Calls Tryz.prog 28 #[.string s] w' fun e w'' => e = .returned (.tuple #[.string ⟨#[115, 117, 98]⟩, .string t]) ∧ ∃ n, w'' = w'.drewN n) (hread : ∀ w', Calls Tryz.prog 29 #[.agg #[.int .i64 p, .int .i64 q], .string t] w' fun e w'' => e = .returned (.tuple #[.int .i64 n, .bool true]) ∧ Below w'.heap.size w' w'') :
    Calls Tryz.prog 9 #[.agg #[.int .i64 p, .int .i64 q, .int .i64 a, .bool x], .string s] w fun e w' => e = .returned (.tuple #[.agg #[.int .i64 (p), .int .i64 (q), .int .i64 (cutV p q (a - n)), .bool (x || !(cutV p q (a - n) == a - n))], .string (sOf (sText p q (cutV p q (a - n))))]) ∧ Below w.heap.size w w' := by
  have OP := Lib.hid (fun w' => sub_spec p q a n w' hf hn)
  have CV := Lib.hid (fun w' => calv_spec p q a x w' hf)
  have HW := Lib.hid hw
  have HRD := Lib.hid hread
  clear hw hread
  have HI : Hid (InA w p q a x ((w.alloc (.cells #[.int .i64 p, .int .i64 q, .int .i64 a, .bool x] 26)).alloc (.cells #[.int .i64 0, .int .i64 0, .int .i64 0, .bool false] 26))) := Lib.hid (InA.start w p q a x)
  go_enter Tryz.func9, Tryz.ntmps9
  go_wp2_with fail
  refine (CV.out _).mono ?_
  rintro e w1 ⟨rfl, hb⟩
  have hI := HI.out.below hb
  clear HI hb
  obtain ⟨kx0, kx1, kx2, kx3⟩ := blk4c hI.c
  have HI := Lib.hid hI
  clear hI
  go_wp2_with fail
  refine (HW.out _).mono ?_
  rintro e w2 ⟨rfl, nq, rfl⟩
  have HI := Lib.hid (HI.out.drewN nq)
  go_wp2_with fail
  refine (HRD.out _).mono ?_
  rintro e w3 ⟨rfl, hb⟩
  have hI := HI.out.below hb
  clear HI hb kx0 kx1 kx2 kx3
  obtain ⟨kx0, kx1, kx2, kx3⟩ := blk4c hI.c
  obtain ⟨d0, d1, d2, d3⟩ := blk4c hI.r
  obtain ⟨f0, f1, f2, f3⟩ := blk4f hI.r
  have hl1 := hI.c.lt
  have hl2 := hI.r.lt
  have HI0 := Lib.hid hI
  have HK := Lib.hid (Blk.new w3 24 #[.int .i64 p, .int .i64 q])
  have HI := Lib.hid (hI.alloc (.cells #[.int .i64 p, .int .i64 q] 24))
  have hle := hI.bel.size
  clear hI
  go_wp2_with fail
  refine (OP.out _).mono ?_
  rintro e w4 ⟨rfl, hb⟩
  have hI := HI.out.below hb
  have hK := HK.out.below hb HK.out.lt
  clear HI HK hb kx0 kx1 kx2 kx3 d0 d1 d2 d3 f0 f1 f2 f3
  have HL : Hid (∀ F, InL w p q a x w3.heap.size p q F 0 w4) := Lib.hid (fun F => ⟨hI.bel, hI.c, hI.r, hK⟩)
  clear hI hK
  cases x
  · go_wp2_with fail
    refine wp_region_quiet2 (InL w p q a false w3.heap.size p q #[.int .i64 (p), .int .i64 (q), .int .i64 (cutV p q (a - n)), .bool (!(cutV p q (a - n) == a - n))]) (mark 12) 0 (mark_comm 12) (by kernel_rfl) (by kernel_rfl) (HL.out _).drew ?_
    repeat
      (refine walk2_step (fun K hK => ?_)
       go_simp
       first
         | (refine hK _ _ ?_; clear hK K)
         | (apply Exists.intro
            refine ⟨fun k w' hw' => ?_, hK _ _ ?_⟩
            first
              | (go_at_call 40; with_reducible refine Calls.mono (st_spec p q (cutV p q (a - n)) _) ?_; rintro e w2 ⟨rfl, hb2⟩; exact ⟨rfl, (hw'.below hb2).on (by decide)⟩)
              | (obtain ⟨c0, c1, c2, c3⟩ := blk4c hw'.c; obtain ⟨b0, b1, -, -, -⟩ := blk2 hw'.kd; go_simp; exact ⟨hw'.on (by decide), rfl⟩)
            clear hK K)
         | (refine ⟨⟨undef, fun k w' hw' => ?_⟩, hK _ _ ?_⟩
            (obtain ⟨c0, c1, c2, c3⟩ := blk4k hw'.r; obtain ⟨f0, f1, f2, f3⟩ := blk4f hw'.r; go_simp; exact hw'.put.here)
            clear hK K))
    refine walk2_nil ?_
    intro w9 hw9
    have BK : Blk w9 (w.heap.size + 1) 26 #[.int .i64 (p), .int .i64 (q), .int .i64 (cutV p q (a - n)), .bool (!(cutV p q (a - n) == a - n))] := hw9.r
    obtain ⟨q0, q1, q2, q3⟩ := blk4c BK
    have HB := Lib.hid hw9.bel
    clear hw9
    go_wp2_with fail
    refine bodyPost_ret (v := .tuple #[.agg #[.int .i64 (p), .int .i64 (q), .int .i64 (cutV p q (a - n)), .bool (!(cutV p q (a - n) == a - n))], .string (sOf (sText p q (cutV p q (a - n))))]) (by simp [results, Tryz.results9, go_sem, q0, q1, q2, q3]) rfl ?_
    exact ⟨rfl, (by have hb := HB.out; repeat' (first | (with_reducible exact Below.refl _ _) | (with_reducible assumption) | (with_reducible refine below_drewN ?_ _) | (with_reducible refine Below.drew ?_) | (with_reducible refine bl_alloc ?_ _) | (with_reducible refine bl_set ?_ ?_ _) | go_size | omega))⟩
  · go_wp2_with fail
    refine wp_region_quiet2 (InL w p q a true w3.heap.size p q #[.int .i64 (p), .int .i64 (q), .int .i64 (cutV p q (a - n)), .bool (true)]) (mark 12) 0 (mark_comm 12) (by kernel_rfl) (by kernel_rfl) (HL.out _).drew ?_
    repeat
      (refine walk2_step (fun K hK => ?_)
       go_simp
       first
         | (refine hK _ _ ?_; clear hK K)
         | (apply Exists.intro
            refine ⟨fun k w' hw' => ?_, hK _ _ ?_⟩
            first
              | (go_at_call 40; with_reducible refine Calls.mono (st_spec p q (cutV p q (a - n)) _) ?_; rintro e w2 ⟨rfl, hb2⟩; exact ⟨rfl, (hw'.below hb2).on (by decide)⟩)
              | (obtain ⟨c0, c1, c2, c3⟩ := blk4c hw'.c; obtain ⟨b0, b1, -, -, -⟩ := blk2 hw'.kd; go_simp; exact ⟨hw'.on (by decide), rfl⟩)
            clear hK K)
         | (refine ⟨⟨undef, fun k w' hw' => ?_⟩, hK _ _ ?_⟩
            (obtain ⟨c0, c1, c2, c3⟩ := blk4k hw'.r; obtain ⟨f0, f1, f2, f3⟩ := blk4f hw'.r; go_simp; exact hw'.put.here)
            clear hK K))
    refine walk2_nil ?_
    intro w9 hw9
    have BK : Blk w9 (w.heap.size + 1) 26 #[.int .i64 (p), .int .i64 (q), .int .i64 (cutV p q (a - n)), .bool (true)] := hw9.r
    obtain ⟨q0, q1, q2, q3⟩ := blk4c BK
    have HB := Lib.hid hw9.bel
    clear hw9
    go_wp2_with fail
    refine bodyPost_ret (v := .tuple #[.agg #[.int .i64 (p), .int .i64 (q), .int .i64 (cutV p q (a - n)), .bool (true)], .string (sOf (sText p q (cutV p q (a - n))))]) (by simp [results, Tryz.results9, go_sem, q0, q1, q2, q3]) rfl ?_
    exact ⟨rfl, (by have hb := HB.out; repeat' (first | (with_reducible exact Below.refl _ _) | (with_reducible assumption) | (with_reducible refine below_drewN ?_ _) | (with_reducible refine Below.drew ?_) | (with_reducible refine bl_alloc ?_ _) | (with_reducible refine bl_set ?_ ?_ _) | go_size | omega))⟩
set_option maxRecDepth 100000 in
set_option maxHeartbeats 8000000 in
theorem ls_mul (p q a n : Int) (x : Bool) (s t : ByteArray) (w : World) (hf : fitB p q a = true) (hn : fitB p q n = true) (n1 : (s.toList == [99, 108, 101, 97, 114]) = false) (n2 : (s.toList == [99, 117, 116]) = false) (hw : ∀ w', Calls Tryz.prog 28 #[.string s] w' fun e w'' => e = .returned (.tuple #[.string ⟨#[109, 117, 108]⟩, .string t]) ∧ ∃ n, w'' = w'.drewN n) (hread : ∀ w', Calls Tryz.prog 29 #[.agg #[.int .i64 p, .int .i64 q], .string t] w' fun e w'' => e = .returned (.tuple #[.int .i64 n, .bool true]) ∧ Below w'.heap.size w' w'') :
    Calls Tryz.prog 9 #[.agg #[.int .i64 p, .int .i64 q, .int .i64 a, .bool x], .string s] w fun e w' => e = .returned (.tuple #[.agg #[.int .i64 (p), .int .i64 (q), .int .i64 (cutV p q (rnd (a * n) (2 ^ q.toNat))), .bool (x || !(cutV p q (rnd (a * n) (2 ^ q.toNat)) == rnd (a * n) (2 ^ q.toNat)))], .string (sOf (sText p q (cutV p q (rnd (a * n) (2 ^ q.toNat)))))]) ∧ Below w.heap.size w w' := by
  have OP := Lib.hid (fun w' => mul_spec p q a n w' hf hn)
  have CV := Lib.hid (fun w' => calv_spec p q a x w' hf)
  have HW := Lib.hid hw
  have HRD := Lib.hid hread
  clear hw hread
  have HI : Hid (InA w p q a x ((w.alloc (.cells #[.int .i64 p, .int .i64 q, .int .i64 a, .bool x] 26)).alloc (.cells #[.int .i64 0, .int .i64 0, .int .i64 0, .bool false] 26))) := Lib.hid (InA.start w p q a x)
  go_enter Tryz.func9, Tryz.ntmps9
  go_wp2_with fail
  refine (CV.out _).mono ?_
  rintro e w1 ⟨rfl, hb⟩
  have hI := HI.out.below hb
  clear HI hb
  obtain ⟨kx0, kx1, kx2, kx3⟩ := blk4c hI.c
  have HI := Lib.hid hI
  clear hI
  go_wp2_with fail
  refine (HW.out _).mono ?_
  rintro e w2 ⟨rfl, nq, rfl⟩
  have HI := Lib.hid (HI.out.drewN nq)
  go_wp2_with fail
  refine (HRD.out _).mono ?_
  rintro e w3 ⟨rfl, hb⟩
  have hI := HI.out.below hb
  clear HI hb kx0 kx1 kx2 kx3
  obtain ⟨kx0, kx1, kx2, kx3⟩ := blk4c hI.c
  obtain ⟨d0, d1, d2, d3⟩ := blk4c hI.r
  obtain ⟨f0, f1, f2, f3⟩ := blk4f hI.r
  have hl1 := hI.c.lt
  have hl2 := hI.r.lt
  have HI0 := Lib.hid hI
  have HK := Lib.hid (Blk.new w3 24 #[.int .i64 p, .int .i64 q])
  have HI := Lib.hid (hI.alloc (.cells #[.int .i64 p, .int .i64 q] 24))
  have hle := hI.bel.size
  clear hI
  go_wp2_with fail
  refine (OP.out _).mono ?_
  rintro e w4 ⟨rfl, hb⟩
  have hI := HI.out.below hb
  have hK := HK.out.below hb HK.out.lt
  clear HI HK hb kx0 kx1 kx2 kx3 d0 d1 d2 d3 f0 f1 f2 f3
  have HL : Hid (∀ F, InL w p q a x w3.heap.size p q F 0 w4) := Lib.hid (fun F => ⟨hI.bel, hI.c, hI.r, hK⟩)
  clear hI hK
  cases x
  · go_wp2_with fail
    refine wp_region_quiet2 (InL w p q a false w3.heap.size p q #[.int .i64 (p), .int .i64 (q), .int .i64 (cutV p q (rnd (a * n) (2 ^ q.toNat))), .bool (!(cutV p q (rnd (a * n) (2 ^ q.toNat)) == rnd (a * n) (2 ^ q.toNat)))]) (mark 12) 0 (mark_comm 12) (by kernel_rfl) (by kernel_rfl) (HL.out _).drew ?_
    repeat
      (refine walk2_step (fun K hK => ?_)
       go_simp
       first
         | (refine hK _ _ ?_; clear hK K)
         | (apply Exists.intro
            refine ⟨fun k w' hw' => ?_, hK _ _ ?_⟩
            first
              | (go_at_call 40; with_reducible refine Calls.mono (st_spec p q (cutV p q (rnd (a * n) (2 ^ q.toNat))) _) ?_; rintro e w2 ⟨rfl, hb2⟩; exact ⟨rfl, (hw'.below hb2).on (by decide)⟩)
              | (obtain ⟨c0, c1, c2, c3⟩ := blk4c hw'.c; obtain ⟨b0, b1, -, -, -⟩ := blk2 hw'.kd; go_simp; exact ⟨hw'.on (by decide), rfl⟩)
            clear hK K)
         | (refine ⟨⟨undef, fun k w' hw' => ?_⟩, hK _ _ ?_⟩
            (obtain ⟨c0, c1, c2, c3⟩ := blk4k hw'.r; obtain ⟨f0, f1, f2, f3⟩ := blk4f hw'.r; go_simp; exact hw'.put.here)
            clear hK K))
    refine walk2_nil ?_
    intro w9 hw9
    have BK : Blk w9 (w.heap.size + 1) 26 #[.int .i64 (p), .int .i64 (q), .int .i64 (cutV p q (rnd (a * n) (2 ^ q.toNat))), .bool (!(cutV p q (rnd (a * n) (2 ^ q.toNat)) == rnd (a * n) (2 ^ q.toNat)))] := hw9.r
    obtain ⟨q0, q1, q2, q3⟩ := blk4c BK
    have HB := Lib.hid hw9.bel
    clear hw9
    go_wp2_with fail
    refine bodyPost_ret (v := .tuple #[.agg #[.int .i64 (p), .int .i64 (q), .int .i64 (cutV p q (rnd (a * n) (2 ^ q.toNat))), .bool (!(cutV p q (rnd (a * n) (2 ^ q.toNat)) == rnd (a * n) (2 ^ q.toNat)))], .string (sOf (sText p q (cutV p q (rnd (a * n) (2 ^ q.toNat)))))]) (by simp [results, Tryz.results9, go_sem, q0, q1, q2, q3]) rfl ?_
    exact ⟨rfl, (by have hb := HB.out; repeat' (first | (with_reducible exact Below.refl _ _) | (with_reducible assumption) | (with_reducible refine below_drewN ?_ _) | (with_reducible refine Below.drew ?_) | (with_reducible refine bl_alloc ?_ _) | (with_reducible refine bl_set ?_ ?_ _) | go_size | omega))⟩
  · go_wp2_with fail
    refine wp_region_quiet2 (InL w p q a true w3.heap.size p q #[.int .i64 (p), .int .i64 (q), .int .i64 (cutV p q (rnd (a * n) (2 ^ q.toNat))), .bool (true)]) (mark 12) 0 (mark_comm 12) (by kernel_rfl) (by kernel_rfl) (HL.out _).drew ?_
    repeat
      (refine walk2_step (fun K hK => ?_)
       go_simp
       first
         | (refine hK _ _ ?_; clear hK K)
         | (apply Exists.intro
            refine ⟨fun k w' hw' => ?_, hK _ _ ?_⟩
            first
              | (go_at_call 40; with_reducible refine Calls.mono (st_spec p q (cutV p q (rnd (a * n) (2 ^ q.toNat))) _) ?_; rintro e w2 ⟨rfl, hb2⟩; exact ⟨rfl, (hw'.below hb2).on (by decide)⟩)
              | (obtain ⟨c0, c1, c2, c3⟩ := blk4c hw'.c; obtain ⟨b0, b1, -, -, -⟩ := blk2 hw'.kd; go_simp; exact ⟨hw'.on (by decide), rfl⟩)
            clear hK K)
         | (refine ⟨⟨undef, fun k w' hw' => ?_⟩, hK _ _ ?_⟩
            (obtain ⟨c0, c1, c2, c3⟩ := blk4k hw'.r; obtain ⟨f0, f1, f2, f3⟩ := blk4f hw'.r; go_simp; exact hw'.put.here)
            clear hK K))
    refine walk2_nil ?_
    intro w9 hw9
    have BK : Blk w9 (w.heap.size + 1) 26 #[.int .i64 (p), .int .i64 (q), .int .i64 (cutV p q (rnd (a * n) (2 ^ q.toNat))), .bool (true)] := hw9.r
    obtain ⟨q0, q1, q2, q3⟩ := blk4c BK
    have HB := Lib.hid hw9.bel
    clear hw9
    go_wp2_with fail
    refine bodyPost_ret (v := .tuple #[.agg #[.int .i64 (p), .int .i64 (q), .int .i64 (cutV p q (rnd (a * n) (2 ^ q.toNat))), .bool (true)], .string (sOf (sText p q (cutV p q (rnd (a * n) (2 ^ q.toNat)))))]) (by simp [results, Tryz.results9, go_sem, q0, q1, q2, q3]) rfl ?_
    exact ⟨rfl, (by have hb := HB.out; repeat' (first | (with_reducible exact Below.refl _ _) | (with_reducible assumption) | (with_reducible refine below_drewN ?_ _) | (with_reducible refine Below.drew ?_) | (with_reducible refine bl_alloc ?_ _) | (with_reducible refine bl_set ?_ ?_ _) | go_size | omega))⟩
set_option maxRecDepth 100000 in
set_option maxHeartbeats 8000000 in
theorem ls_div (p q a n : Int) (x : Bool) (s t : ByteArray) (w : World) (hf : fitB p q a = true) (hn : fitB p q n = true) (h0 : n ≠ 0) (n1 : (s.toList == [99, 108, 101, 97, 114]) = false) (n2 : (s.toList == [99, 117, 116]) = false) (hw : ∀ w', Calls Tryz.prog 28 #[.string s] w' fun e w'' => e = .returned (.tuple #[.string ⟨#[100, 105, 118]⟩, .string t]) ∧ ∃ n, w'' = w'.drewN n) (hread : ∀ w', Calls Tryz.prog 29 #[.agg #[.int .i64 p, .int .i64 q], .string t] w' fun e w'' => e = .returned (.tuple #[.int .i64 n, .bool true]) ∧ Below w'.heap.size w' w'') :
    Calls Tryz.prog 9 #[.agg #[.int .i64 p, .int .i64 q, .int .i64 a, .bool x], .string s] w fun e w' => e = .returned (.tuple #[.agg #[.int .i64 (p), .int .i64 (q), .int .i64 (cutV p q (rnd (dvX q a n) (dvY n))), .bool (x || !(cutV p q (rnd (dvX q a n) (dvY n)) == rnd (dvX q a n) (dvY n)))], .string (sOf (sText p q (cutV p q (rnd (dvX q a n) (dvY n)))))]) ∧ Below w.heap.size w w' := by
  have h0b : (n == 0) = false := beq_eq_false_iff_ne.2 h0
  have h0c : (n != 0) = true := by simp [h0]
  have OP := Lib.hid (fun w' => div_spec p q a n w' hf hn h0)
  have CV := Lib.hid (fun w' => calv_spec p q a x w' hf)
  have HW := Lib.hid hw
  have HRD := Lib.hid hread
  clear hw hread
  have HI : Hid (InA w p q a x ((w.alloc (.cells #[.int .i64 p, .int .i64 q, .int .i64 a, .bool x] 26)).alloc (.cells #[.int .i64 0, .int .i64 0, .int .i64 0, .bool false] 26))) := Lib.hid (InA.start w p q a x)
  go_enter Tryz.func9, Tryz.ntmps9
  go_wp2_with fail
  refine (CV.out _).mono ?_
  rintro e w1 ⟨rfl, hb⟩
  have hI := HI.out.below hb
  clear HI hb
  obtain ⟨kx0, kx1, kx2, kx3⟩ := blk4c hI.c
  have HI := Lib.hid hI
  clear hI
  go_wp2_with fail
  refine (HW.out _).mono ?_
  rintro e w2 ⟨rfl, nq, rfl⟩
  have HI := Lib.hid (HI.out.drewN nq)
  go_wp2_with fail
  refine (HRD.out _).mono ?_
  rintro e w3 ⟨rfl, hb⟩
  have hI := HI.out.below hb
  clear HI hb kx0 kx1 kx2 kx3
  obtain ⟨kx0, kx1, kx2, kx3⟩ := blk4c hI.c
  obtain ⟨d0, d1, d2, d3⟩ := blk4c hI.r
  obtain ⟨f0, f1, f2, f3⟩ := blk4f hI.r
  have hl1 := hI.c.lt
  have hl2 := hI.r.lt
  have HI0 := Lib.hid hI
  have HK := Lib.hid (Blk.new w3 24 #[.int .i64 p, .int .i64 q])
  have HI := Lib.hid (hI.alloc (.cells #[.int .i64 p, .int .i64 q] 24))
  have hle := hI.bel.size
  clear hI
  go_wp2_with fail
  refine (OP.out _).mono ?_
  rintro e w4 ⟨rfl, hb⟩
  have hI := HI.out.below hb
  have hK := HK.out.below hb HK.out.lt
  clear HI HK hb kx0 kx1 kx2 kx3 d0 d1 d2 d3 f0 f1 f2 f3
  have HL : Hid (∀ F, InL w p q a x w3.heap.size p q F 0 w4) := Lib.hid (fun F => ⟨hI.bel, hI.c, hI.r, hK⟩)
  clear hI hK
  cases x
  · go_wp2_with fail
    refine wp_region_quiet2 (InL w p q a false w3.heap.size p q #[.int .i64 (p), .int .i64 (q), .int .i64 (cutV p q (rnd (dvX q a n) (dvY n))), .bool (!(cutV p q (rnd (dvX q a n) (dvY n)) == rnd (dvX q a n) (dvY n)))]) (mark 12) 0 (mark_comm 12) (by kernel_rfl) (by kernel_rfl) (HL.out _).drew ?_
    repeat
      (refine walk2_step (fun K hK => ?_)
       go_simp
       first
         | (refine hK _ _ ?_; clear hK K)
         | (apply Exists.intro
            refine ⟨fun k w' hw' => ?_, hK _ _ ?_⟩
            first
              | (go_at_call 40; with_reducible refine Calls.mono (st_spec p q (cutV p q (rnd (dvX q a n) (dvY n))) _) ?_; rintro e w2 ⟨rfl, hb2⟩; exact ⟨rfl, (hw'.below hb2).on (by decide)⟩)
              | (obtain ⟨c0, c1, c2, c3⟩ := blk4c hw'.c; obtain ⟨b0, b1, -, -, -⟩ := blk2 hw'.kd; go_simp; exact ⟨hw'.on (by decide), rfl⟩)
            clear hK K)
         | (refine ⟨⟨undef, fun k w' hw' => ?_⟩, hK _ _ ?_⟩
            (obtain ⟨c0, c1, c2, c3⟩ := blk4k hw'.r; obtain ⟨f0, f1, f2, f3⟩ := blk4f hw'.r; go_simp; exact hw'.put.here)
            clear hK K))
    refine walk2_nil ?_
    intro w9 hw9
    have BK : Blk w9 (w.heap.size + 1) 26 #[.int .i64 (p), .int .i64 (q), .int .i64 (cutV p q (rnd (dvX q a n) (dvY n))), .bool (!(cutV p q (rnd (dvX q a n) (dvY n)) == rnd (dvX q a n) (dvY n)))] := hw9.r
    obtain ⟨q0, q1, q2, q3⟩ := blk4c BK
    have HB := Lib.hid hw9.bel
    clear hw9
    go_wp2_with fail
    refine bodyPost_ret (v := .tuple #[.agg #[.int .i64 (p), .int .i64 (q), .int .i64 (cutV p q (rnd (dvX q a n) (dvY n))), .bool (!(cutV p q (rnd (dvX q a n) (dvY n)) == rnd (dvX q a n) (dvY n)))], .string (sOf (sText p q (cutV p q (rnd (dvX q a n) (dvY n)))))]) (by simp [results, Tryz.results9, go_sem, q0, q1, q2, q3]) rfl ?_
    exact ⟨rfl, (by have hb := HB.out; repeat' (first | (with_reducible exact Below.refl _ _) | (with_reducible assumption) | (with_reducible refine below_drewN ?_ _) | (with_reducible refine Below.drew ?_) | (with_reducible refine bl_alloc ?_ _) | (with_reducible refine bl_set ?_ ?_ _) | go_size | omega))⟩
  · go_wp2_with fail
    refine wp_region_quiet2 (InL w p q a true w3.heap.size p q #[.int .i64 (p), .int .i64 (q), .int .i64 (cutV p q (rnd (dvX q a n) (dvY n))), .bool (true)]) (mark 12) 0 (mark_comm 12) (by kernel_rfl) (by kernel_rfl) (HL.out _).drew ?_
    repeat
      (refine walk2_step (fun K hK => ?_)
       go_simp
       first
         | (refine hK _ _ ?_; clear hK K)
         | (apply Exists.intro
            refine ⟨fun k w' hw' => ?_, hK _ _ ?_⟩
            first
              | (go_at_call 40; with_reducible refine Calls.mono (st_spec p q (cutV p q (rnd (dvX q a n) (dvY n))) _) ?_; rintro e w2 ⟨rfl, hb2⟩; exact ⟨rfl, (hw'.below hb2).on (by decide)⟩)
              | (obtain ⟨c0, c1, c2, c3⟩ := blk4c hw'.c; obtain ⟨b0, b1, -, -, -⟩ := blk2 hw'.kd; go_simp; exact ⟨hw'.on (by decide), rfl⟩)
            clear hK K)
         | (refine ⟨⟨undef, fun k w' hw' => ?_⟩, hK _ _ ?_⟩
            (obtain ⟨c0, c1, c2, c3⟩ := blk4k hw'.r; obtain ⟨f0, f1, f2, f3⟩ := blk4f hw'.r; go_simp; exact hw'.put.here)
            clear hK K))
    refine walk2_nil ?_
    intro w9 hw9
    have BK : Blk w9 (w.heap.size + 1) 26 #[.int .i64 (p), .int .i64 (q), .int .i64 (cutV p q (rnd (dvX q a n) (dvY n))), .bool (true)] := hw9.r
    obtain ⟨q0, q1, q2, q3⟩ := blk4c BK
    have HB := Lib.hid hw9.bel
    clear hw9
    go_wp2_with fail
    refine bodyPost_ret (v := .tuple #[.agg #[.int .i64 (p), .int .i64 (q), .int .i64 (cutV p q (rnd (dvX q a n) (dvY n))), .bool (true)], .string (sOf (sText p q (cutV p q (rnd (dvX q a n) (dvY n)))))]) (by simp [results, Tryz.results9, go_sem, q0, q1, q2, q3]) rfl ?_
    exact ⟨rfl, (by have hb := HB.out; repeat' (first | (with_reducible exact Below.refl _ _) | (with_reducible assumption) | (with_reducible refine below_drewN ?_ _) | (with_reducible refine Below.drew ?_) | (with_reducible refine bl_alloc ?_ _) | (with_reducible refine bl_set ?_ ?_ _) | go_size | omega))⟩
end Go.Proofs.YtidnnnjjpjadlaaGreatDoor
