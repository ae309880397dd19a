/- CalculatorLine of the reference: lines that are not known. No condition: contracts for the walks of the laws. -/
import Derived.Test.YtidnnnjjpjadlaaGreatDoorLs1
namespace Go.Proofs.YtidnnnjjpjadlaaGreatDoor
open Go.ChangeShapes Go.WideShapes Go.ChangeAt Go.RowKit

set_option maxRecDepth 100000 in
set_option maxHeartbeats 8000000 in
theorem lw_no_set (p q a n : Int) (x : Bool) (s t : ByteArray) (w : World) (hf : fitB p q a = true) (n1 : (s.toList == [99, 108, 101, 97, 114]) = false) (n2 : (s.toList == [99, 117, 116]) = false) (n3 : (s.toList == [115, 113, 114, 116]) = false) (n4 : (s.toList == [112, 111, 119, 101, 114]) = false) (n5 : (s.toList == [119, 104, 111, 108, 101]) = false) (hw : ∀ w', Calls Tryz.prog 28 #[.string s] w' fun e w'' => e = .returned (.tuple #[.string ⟨#[115, 101, 116]⟩, .string t]) ∧ ∃ n, w'' = w'.drewN n) (hread : ∀ w', Calls Tryz.prog 29 #[.agg #[.int .i64 p, .int .i64 q], .string t] w' fun e w'' => e = .returned (.tuple #[.int .i64 n, .bool false]) ∧ Below w'.heap.size w' w'') :
    Calls Tryz.prog 9 #[.agg #[.int .i64 p, .int .i64 q, .int .i64 a, .bool x], .string s] w fun e w' => e = .returned (.tuple #[.agg #[.int .i64 (p), .int .i64 (q), .int .i64 (a), .bool (x)], .string ⟨#[119, 104, 97, 116]⟩]) ∧ Below w.heap.size w w' := by
  have CV := Lib.hid (fun w' => calv_spec p q a x w' hf)
  have HW := Lib.hid hw
  have HRD := Lib.hid hread
  clear hw hread
  have HI : Hid (InA w p q a x ((w.alloc (.cells #[.int .i64 p, .int .i64 q, .int .i64 a, .bool x] 26)).alloc (.cells #[.int .i64 0, .int .i64 0, .int .i64 0, .bool false] 26))) := Lib.hid (InA.start w p q a x)
  go_enter Tryz.func9, Tryz.ntmps9
  go_wp2_with fail
  refine (CV.out _).mono ?_
  rintro e w1 ⟨rfl, hb⟩
  have hI := HI.out.below hb
  clear HI hb
  obtain ⟨kx0, kx1, kx2, kx3⟩ := blk4c hI.c
  have HI := Lib.hid hI
  clear hI
  go_wp2_with fail
  refine (HW.out _).mono ?_
  rintro e w2 ⟨rfl, nq, rfl⟩
  have HI := Lib.hid (HI.out.drewN nq)
  go_wp2_with fail
  refine (HRD.out _).mono ?_
  rintro e w3 ⟨rfl, hb⟩
  have hI := HI.out.below hb
  clear HI hb kx0 kx1 kx2 kx3
  obtain ⟨kx0, kx1, kx2, kx3⟩ := blk4c hI.c
  obtain ⟨d0, d1, d2, d3⟩ := blk4c hI.r
  obtain ⟨f0, f1, f2, f3⟩ := blk4f hI.r
  have hl1 := hI.c.lt
  have hl2 := hI.r.lt
  have HI0 := Lib.hid hI
  have HK := Lib.hid (Blk.new w3 24 #[.int .i64 p, .int .i64 q])
  have HI := Lib.hid (hI.alloc (.cells #[.int .i64 p, .int .i64 q] 24))
  have hle := hI.bel.size
  clear hI
  go_wp2_with fail
  have bk := Lib.hid (((((HI0.out.r.set 0 (.int .i64 p)).set 1 (.int .i64 q)).set 2 (.int .i64 a)).set 3 (.bool x)).alloc (.cells #[.int .i64 p, .int .i64 q] 24))
  have HB := Lib.hid HI0.out.bel
  have BK : Blk _ (w.heap.size + 1) 26 #[.int .i64 (p), .int .i64 (q), .int .i64 (a), .bool (x)] := bk.out
  obtain ⟨q0, q1, q2, q3⟩ := blk4c BK
  refine bodyPost_ret (v := .tuple #[.agg #[.int .i64 (p), .int .i64 (q), .int .i64 (a), .bool (x)], .string ⟨#[119, 104, 97, 116]⟩]) (by simp [results, Tryz.results9, go_sem, q0, q1, q2, q3]) rfl ?_
  exact ⟨rfl, (by have hb := HB.out; repeat' (first | (with_reducible exact Below.refl _ _) | (with_reducible assumption) | (with_reducible refine below_drewN ?_ _) | (with_reducible refine Below.drew ?_) | (with_reducible refine bl_alloc ?_ _) | (with_reducible refine bl_set ?_ ?_ _) | go_size | omega))⟩
set_option maxRecDepth 100000 in
set_option maxHeartbeats 8000000 in
theorem lw_no_add (p q a n : Int) (x : Bool) (s t : ByteArray) (w : World) (hf : fitB p q a = true) (n1 : (s.toList == [99, 108, 101, 97, 114]) = false) (n2 : (s.toList == [99, 117, 116]) = false) (n3 : (s.toList == [115, 113, 114, 116]) = false) (n4 : (s.toList == [112, 111, 119, 101, 114]) = false) (n5 : (s.toList == [119, 104, 111, 108, 101]) = false) (hw : ∀ w', Calls Tryz.prog 28 #[.string s] w' fun e w'' => e = .returned (.tuple #[.string ⟨#[97, 100, 100]⟩, .string t]) ∧ ∃ n, w'' = w'.drewN n) (hread : ∀ w', Calls Tryz.prog 29 #[.agg #[.int .i64 p, .int .i64 q], .string t] w' fun e w'' => e = .returned (.tuple #[.int .i64 n, .bool false]) ∧ Below w'.heap.size w' w'') :
    Calls Tryz.prog 9 #[.agg #[.int .i64 p, .int .i64 q, .int .i64 a, .bool x], .string s] w fun e w' => e = .returned (.tuple #[.agg #[.int .i64 (p), .int .i64 (q), .int .i64 (a), .bool (x)], .string ⟨#[119, 104, 97, 116]⟩]) ∧ Below w.heap.size w w' := by
  have CV := Lib.hid (fun w' => calv_spec p q a x w' hf)
  have HW := Lib.hid hw
  have HRD := Lib.hid hread
  clear hw hread
  have HI : Hid (InA w p q a x ((w.alloc (.cells #[.int .i64 p, .int .i64 q, .int .i64 a, .bool x] 26)).alloc (.cells #[.int .i64 0, .int .i64 0, .int .i64 0, .bool false] 26))) := Lib.hid (InA.start w p q a x)
  go_enter Tryz.func9, Tryz.ntmps9
  go_wp2_with fail
  refine (CV.out _).mono ?_
  rintro e w1 ⟨rfl, hb⟩
  have hI := HI.out.below hb
  clear HI hb
  obtain ⟨kx0, kx1, kx2, kx3⟩ := blk4c hI.c
  have HI := Lib.hid hI
  clear hI
  go_wp2_with fail
  refine (HW.out _).mono ?_
  rintro e w2 ⟨rfl, nq, rfl⟩
  have HI := Lib.hid (HI.out.drewN nq)
  go_wp2_with fail
  refine (HRD.out _).mono ?_
  rintro e w3 ⟨rfl, hb⟩
  have hI := HI.out.below hb
  clear HI hb kx0 kx1 kx2 kx3
  obtain ⟨kx0, kx1, kx2, kx3⟩ := blk4c hI.c
  obtain ⟨d0, d1, d2, d3⟩ := blk4c hI.r
  obtain ⟨f0, f1, f2, f3⟩ := blk4f hI.r
  have hl1 := hI.c.lt
  have hl2 := hI.r.lt
  have HI0 := Lib.hid hI
  have HK := Lib.hid (Blk.new w3 24 #[.int .i64 p, .int .i64 q])
  have HI := Lib.hid (hI.alloc (.cells #[.int .i64 p, .int .i64 q] 24))
  have hle := hI.bel.size
  clear hI
  go_wp2_with fail
  have bk := Lib.hid (((((HI0.out.r.set 0 (.int .i64 p)).set 1 (.int .i64 q)).set 2 (.int .i64 a)).set 3 (.bool x)).alloc (.cells #[.int .i64 p, .int .i64 q] 24))
  have HB := Lib.hid HI0.out.bel
  have BK : Blk _ (w.heap.size + 1) 26 #[.int .i64 (p), .int .i64 (q), .int .i64 (a), .bool (x)] := bk.out
  obtain ⟨q0, q1, q2, q3⟩ := blk4c BK
  refine bodyPost_ret (v := .tuple #[.agg #[.int .i64 (p), .int .i64 (q), .int .i64 (a), .bool (x)], .string ⟨#[119, 104, 97, 116]⟩]) (by simp [results, Tryz.results9, go_sem, q0, q1, q2, q3]) rfl ?_
  exact ⟨rfl, (by have hb := HB.out; repeat' (first | (with_reducible exact Below.refl _ _) | (with_reducible assumption) | (with_reducible refine below_drewN ?_ _) | (with_reducible refine Below.drew ?_) | (with_reducible refine bl_alloc ?_ _) | (with_reducible refine bl_set ?_ ?_ _) | go_size | omega))⟩
set_option maxRecDepth 100000 in
set_option maxHeartbeats 8000000 in
theorem lw_no_sub (p q a n : Int) (x : Bool) (s t : ByteArray) (w : World) (hf : fitB p q a = true) (n1 : (s.toList == [99, 108, 101, 97, 114]) = false) (n2 : (s.toList == [99, 117, 116]) = false) (n3 : (s.toList == [115, 113, 114, 116]) = false) (n4 : (s.toList == [112, 111, 119, 101, 114]) = false) (n5 : (s.toList == [119, 104, 111, 108, 101]) = false) (hw : ∀ w', Calls Tryz.prog 28 #[.string s] w' fun e w'' => e = .returned (.tuple #[.string ⟨#[115, 117, 98]⟩, .string t]) ∧ ∃ n, w'' = w'.drewN n) (hread : ∀ w', Calls Tryz.prog 29 #[.agg #[.int .i64 p, .int .i64 q], .string t] w' fun e w'' => e = .returned (.tuple #[.int .i64 n, .bool false]) ∧ Below w'.heap.size w' w'') :
    Calls Tryz.prog 9 #[.agg #[.int .i64 p, .int .i64 q, .int .i64 a, .bool x], .string s] w fun e w' => e = .returned (.tuple #[.agg #[.int .i64 (p), .int .i64 (q), .int .i64 (a), .bool (x)], .string ⟨#[119, 104, 97, 116]⟩]) ∧ Below w.heap.size w w' := by
  have CV := Lib.hid (fun w' => calv_spec p q a x w' hf)
  have HW := Lib.hid hw
  have HRD := Lib.hid hread
  clear hw hread
  have HI : Hid (InA w p q a x ((w.alloc (.cells #[.int .i64 p, .int .i64 q, .int .i64 a, .bool x] 26)).alloc (.cells #[.int .i64 0, .int .i64 0, .int .i64 0, .bool false] 26))) := Lib.hid (InA.start w p q a x)
  go_enter Tryz.func9, Tryz.ntmps9
  go_wp2_with fail
  refine (CV.out _).mono ?_
  rintro e w1 ⟨rfl, hb⟩
  have hI := HI.out.below hb
  clear HI hb
  obtain ⟨kx0, kx1, kx2, kx3⟩ := blk4c hI.c
  have HI := Lib.hid hI
  clear hI
  go_wp2_with fail
  refine (HW.out _).mono ?_
  rintro e w2 ⟨rfl, nq, rfl⟩
  have HI := Lib.hid (HI.out.drewN nq)
  go_wp2_with fail
  refine (HRD.out _).mono ?_
  rintro e w3 ⟨rfl, hb⟩
  have hI := HI.out.below hb
  clear HI hb kx0 kx1 kx2 kx3
  obtain ⟨kx0, kx1, kx2, kx3⟩ := blk4c hI.c
  obtain ⟨d0, d1, d2, d3⟩ := blk4c hI.r
  obtain ⟨f0, f1, f2, f3⟩ := blk4f hI.r
  have hl1 := hI.c.lt
  have hl2 := hI.r.lt
  have HI0 := Lib.hid hI
  have HK := Lib.hid (Blk.new w3 24 #[.int .i64 p, .int .i64 q])
  have HI := Lib.hid (hI.alloc (.cells #[.int .i64 p, .int .i64 q] 24))
  have hle := hI.bel.size
  clear hI
  go_wp2_with fail
  have bk := Lib.hid (((((HI0.out.r.set 0 (.int .i64 p)).set 1 (.int .i64 q)).set 2 (.int .i64 a)).set 3 (.bool x)).alloc (.cells #[.int .i64 p, .int .i64 q] 24))
  have HB := Lib.hid HI0.out.bel
  have BK : Blk _ (w.heap.size + 1) 26 #[.int .i64 (p), .int .i64 (q), .int .i64 (a), .bool (x)] := bk.out
  obtain ⟨q0, q1, q2, q3⟩ := blk4c BK
  refine bodyPost_ret (v := .tuple #[.agg #[.int .i64 (p), .int .i64 (q), .int .i64 (a), .bool (x)], .string ⟨#[119, 104, 97, 116]⟩]) (by simp [results, Tryz.results9, go_sem, q0, q1, q2, q3]) rfl ?_
  exact ⟨rfl, (by have hb := HB.out; repeat' (first | (with_reducible exact Below.refl _ _) | (with_reducible assumption) | (with_reducible refine below_drewN ?_ _) | (with_reducible refine Below.drew ?_) | (with_reducible refine bl_alloc ?_ _) | (with_reducible refine bl_set ?_ ?_ _) | go_size | omega))⟩
set_option maxRecDepth 100000 in
set_option maxHeartbeats 8000000 in
theorem lw_no_mul (p q a n : Int) (x : Bool) (s t : ByteArray) (w : World) (hf : fitB p q a = true) (n1 : (s.toList == [99, 108, 101, 97, 114]) = false) (n2 : (s.toList == [99, 117, 116]) = false) (n3 : (s.toList == [115, 113, 114, 116]) = false) (n4 : (s.toList == [112, 111, 119, 101, 114]) = false) (n5 : (s.toList == [119, 104, 111, 108, 101]) = false) (hw : ∀ w', Calls Tryz.prog 28 #[.string s] w' fun e w'' => e = .returned (.tuple #[.string ⟨#[109, 117, 108]⟩, .string t]) ∧ ∃ n, w'' = w'.drewN n) (hread : ∀ w', Calls Tryz.prog 29 #[.agg #[.int .i64 p, .int .i64 q], .string t] w' fun e w'' => e = .returned (.tuple #[.int .i64 n, .bool false]) ∧ Below w'.heap.size w' w'') :
    Calls Tryz.prog 9 #[.agg #[.int .i64 p, .int .i64 q, .int .i64 a, .bool x], .string s] w fun e w' => e = .returned (.tuple #[.agg #[.int .i64 (p), .int .i64 (q), .int .i64 (a), .bool (x)], .string ⟨#[119, 104, 97, 116]⟩]) ∧ Below w.heap.size w w' := by
  have CV := Lib.hid (fun w' => calv_spec p q a x w' hf)
  have HW := Lib.hid hw
  have HRD := Lib.hid hread
  clear hw hread
  have HI : Hid (InA w p q a x ((w.alloc (.cells #[.int .i64 p, .int .i64 q, .int .i64 a, .bool x] 26)).alloc (.cells #[.int .i64 0, .int .i64 0, .int .i64 0, .bool false] 26))) := Lib.hid (InA.start w p q a x)
  go_enter Tryz.func9, Tryz.ntmps9
  go_wp2_with fail
  refine (CV.out _).mono ?_
  rintro e w1 ⟨rfl, hb⟩
  have hI := HI.out.below hb
  clear HI hb
  obtain ⟨kx0, kx1, kx2, kx3⟩ := blk4c hI.c
  have HI := Lib.hid hI
  clear hI
  go_wp2_with fail
  refine (HW.out _).mono ?_
  rintro e w2 ⟨rfl, nq, rfl⟩
  have HI := Lib.hid (HI.out.drewN nq)
  go_wp2_with fail
  refine (HRD.out _).mono ?_
  rintro e w3 ⟨rfl, hb⟩
  have hI := HI.out.below hb
  clear HI hb kx0 kx1 kx2 kx3
  obtain ⟨kx0, kx1, kx2, kx3⟩ := blk4c hI.c
  obtain ⟨d0, d1, d2, d3⟩ := blk4c hI.r
  obtain ⟨f0, f1, f2, f3⟩ := blk4f hI.r
  have hl1 := hI.c.lt
  have hl2 := hI.r.lt
  have HI0 := Lib.hid hI
  have HK := Lib.hid (Blk.new w3 24 #[.int .i64 p, .int .i64 q])
  have HI := Lib.hid (hI.alloc (.cells #[.int .i64 p, .int .i64 q] 24))
  have hle := hI.bel.size
  clear hI
  go_wp2_with fail
  have bk := Lib.hid (((((HI0.out.r.set 0 (.int .i64 p)).set 1 (.int .i64 q)).set 2 (.int .i64 a)).set 3 (.bool x)).alloc (.cells #[.int .i64 p, .int .i64 q] 24))
  have HB := Lib.hid HI0.out.bel
  have BK : Blk _ (w.heap.size + 1) 26 #[.int .i64 (p), .int .i64 (q), .int .i64 (a), .bool (x)] := bk.out
  obtain ⟨q0, q1, q2, q3⟩ := blk4c BK
  refine bodyPost_ret (v := .tuple #[.agg #[.int .i64 (p), .int .i64 (q), .int .i64 (a), .bool (x)], .string ⟨#[119, 104, 97, 116]⟩]) (by simp [results, Tryz.results9, go_sem, q0, q1, q2, q3]) rfl ?_
  exact ⟨rfl, (by have hb := HB.out; repeat' (first | (with_reducible exact Below.refl _ _) | (with_reducible assumption) | (with_reducible refine below_drewN ?_ _) | (with_reducible refine Below.drew ?_) | (with_reducible refine bl_alloc ?_ _) | (with_reducible refine bl_set ?_ ?_ _) | go_size | omega))⟩
set_option maxRecDepth 100000 in
set_option maxHeartbeats 8000000 in
theorem lw_no_div (p q a n : Int) (x : Bool) (s t : ByteArray) (w : World) (hf : fitB p q a = true) (n1 : (s.toList == [99, 108, 101, 97, 114]) = false) (n2 : (s.toList == [99, 117, 116]) = false) (n3 : (s.toList == [115, 113, 114, 116]) = false) (n4 : (s.toList == [112, 111, 119, 101, 114]) = false) (n5 : (s.toList == [119, 104, 111, 108, 101]) = false) (hw : ∀ w', Calls Tryz.prog 28 #[.string s] w' fun e w'' => e = .returned (.tuple #[.string ⟨#[100, 105, 118]⟩, .string t]) ∧ ∃ n, w'' = w'.drewN n) (hread : ∀ w', Calls Tryz.prog 29 #[.agg #[.int .i64 p, .int .i64 q], .string t] w' fun e w'' => e = .returned (.tuple #[.int .i64 n, .bool false]) ∧ Below w'.heap.size w' w'') :
    Calls Tryz.prog 9 #[.agg #[.int .i64 p, .int .i64 q, .int .i64 a, .bool x], .string s] w fun e w' => e = .returned (.tuple #[.agg #[.int .i64 (p), .int .i64 (q), .int .i64 (a), .bool (x)], .string ⟨#[119, 104, 97, 116]⟩]) ∧ Below w.heap.size w w' := by
  have CV := Lib.hid (fun w' => calv_spec p q a x w' hf)
  have HW := Lib.hid hw
  have HRD := Lib.hid hread
  clear hw hread
  have HI : Hid (InA w p q a x ((w.alloc (.cells #[.int .i64 p, .int .i64 q, .int .i64 a, .bool x] 26)).alloc (.cells #[.int .i64 0, .int .i64 0, .int .i64 0, .bool false] 26))) := Lib.hid (InA.start w p q a x)
  go_enter Tryz.func9, Tryz.ntmps9
  go_wp2_with fail
  refine (CV.out _).mono ?_
  rintro e w1 ⟨rfl, hb⟩
  have hI := HI.out.below hb
  clear HI hb
  obtain ⟨kx0, kx1, kx2, kx3⟩ := blk4c hI.c
  have HI := Lib.hid hI
  clear hI
  go_wp2_with fail
  refine (HW.out _).mono ?_
  rintro e w2 ⟨rfl, nq, rfl⟩
  have HI := Lib.hid (HI.out.drewN nq)
  go_wp2_with fail
  refine (HRD.out _).mono ?_
  rintro e w3 ⟨rfl, hb⟩
  have hI := HI.out.below hb
  clear HI hb kx0 kx1 kx2 kx3
  obtain ⟨kx0, kx1, kx2, kx3⟩ := blk4c hI.c
  obtain ⟨d0, d1, d2, d3⟩ := blk4c hI.r
  obtain ⟨f0, f1, f2, f3⟩ := blk4f hI.r
  have hl1 := hI.c.lt
  have hl2 := hI.r.lt
  have HI0 := Lib.hid hI
  have HK := Lib.hid (Blk.new w3 24 #[.int .i64 p, .int .i64 q])
  have HI := Lib.hid (hI.alloc (.cells #[.int .i64 p, .int .i64 q] 24))
  have hle := hI.bel.size
  clear hI
  go_wp2_with fail
  have bk := Lib.hid (((((HI0.out.r.set 0 (.int .i64 p)).set 1 (.int .i64 q)).set 2 (.int .i64 a)).set 3 (.bool x)).alloc (.cells #[.int .i64 p, .int .i64 q] 24))
  have HB := Lib.hid HI0.out.bel
  have BK : Blk _ (w.heap.size + 1) 26 #[.int .i64 (p), .int .i64 (q), .int .i64 (a), .bool (x)] := bk.out
  obtain ⟨q0, q1, q2, q3⟩ := blk4c BK
  refine bodyPost_ret (v := .tuple #[.agg #[.int .i64 (p), .int .i64 (q), .int .i64 (a), .bool (x)], .string ⟨#[119, 104, 97, 116]⟩]) (by simp [results, Tryz.results9, go_sem, q0, q1, q2, q3]) rfl ?_
  exact ⟨rfl, (by have hb := HB.out; repeat' (first | (with_reducible exact Below.refl _ _) | (with_reducible assumption) | (with_reducible refine below_drewN ?_ _) | (with_reducible refine Below.drew ?_) | (with_reducible refine bl_alloc ?_ _) | (with_reducible refine bl_set ?_ ?_ _) | go_size | omega))⟩
set_option maxRecDepth 100000 in
set_option maxHeartbeats 8000000 in
theorem lw_div0 (p q a : Int) (x : Bool) (s t : ByteArray) (w : World) (hf : fitB p q a = true) (n1 : (s.toList == [99, 108, 101, 97, 114]) = false) (n2 : (s.toList == [99, 117, 116]) = false) (n3 : (s.toList == [115, 113, 114, 116]) = false) (n4 : (s.toList == [112, 111, 119, 101, 114]) = false) (n5 : (s.toList == [119, 104, 111, 108, 101]) = false) (hw : ∀ w', Calls Tryz.prog 28 #[.string s] w' fun e w'' => e = .returned (.tuple #[.string ⟨#[100, 105, 118]⟩, .string t]) ∧ ∃ n, w'' = w'.drewN n) (hread : ∀ w', Calls Tryz.prog 29 #[.agg #[.int .i64 p, .int .i64 q], .string t] w' fun e w'' => e = .returned (.tuple #[.int .i64 0, .bool true]) ∧ Below w'.heap.size w' w'') :
    Calls Tryz.prog 9 #[.agg #[.int .i64 p, .int .i64 q, .int .i64 a, .bool x], .string s] w fun e w' => e = .returned (.tuple #[.agg #[.int .i64 (p), .int .i64 (q), .int .i64 (a), .bool (x)], .string ⟨#[119, 104, 97, 116]⟩]) ∧ Below w.heap.size w w' := by
  have CV := Lib.hid (fun w' => calv_spec p q a x w' hf)
  have HW := Lib.hid hw
  have HRD := Lib.hid hread
  clear hw hread
  have HI : Hid (InA w p q a x ((w.alloc (.cells #[.int .i64 p, .int .i64 q, .int .i64 a, .bool x] 26)).alloc (.cells #[.int .i64 0, .int .i64 0, .int .i64 0, .bool false] 26))) := Lib.hid (InA.start w p q a x)
  go_enter Tryz.func9, Tryz.ntmps9
  go_wp2_with fail
  refine (CV.out _).mono ?_
  rintro e w1 ⟨rfl, hb⟩
  have hI := HI.out.below hb
  clear HI hb
  obtain ⟨kx0, kx1, kx2, kx3⟩ := blk4c hI.c
  have HI := Lib.hid hI
  clear hI
  go_wp2_with fail
  refine (HW.out _).mono ?_
  rintro e w2 ⟨rfl, nq, rfl⟩
  have HI := Lib.hid (HI.out.drewN nq)
  go_wp2_with fail
  refine (HRD.out _).mono ?_
  rintro e w3 ⟨rfl, hb⟩
  have hI := HI.out.below hb
  clear HI hb kx0 kx1 kx2 kx3
  obtain ⟨kx0, kx1, kx2, kx3⟩ := blk4c hI.c
  obtain ⟨d0, d1, d2, d3⟩ := blk4c hI.r
  obtain ⟨f0, f1, f2, f3⟩ := blk4f hI.r
  have hl1 := hI.c.lt
  have hl2 := hI.r.lt
  have HI0 := Lib.hid hI
  have HK := Lib.hid (Blk.new w3 24 #[.int .i64 p, .int .i64 q])
  have HI := Lib.hid (hI.alloc (.cells #[.int .i64 p, .int .i64 q] 24))
  have hle := hI.bel.size
  clear hI
  go_wp2_with fail
  have bk := Lib.hid (((((HI0.out.r.set 0 (.int .i64 p)).set 1 (.int .i64 q)).set 2 (.int .i64 a)).set 3 (.bool x)).alloc (.cells #[.int .i64 p, .int .i64 q] 24))
  have HB := Lib.hid HI0.out.bel
  have BK : Blk _ (w.heap.size + 1) 26 #[.int .i64 (p), .int .i64 (q), .int .i64 (a), .bool (x)] := bk.out
  obtain ⟨q0, q1, q2, q3⟩ := blk4c BK
  refine bodyPost_ret (v := .tuple #[.agg #[.int .i64 (p), .int .i64 (q), .int .i64 (a), .bool (x)], .string ⟨#[119, 104, 97, 116]⟩]) (by simp [results, Tryz.results9, go_sem, q0, q1, q2, q3]) rfl ?_
  exact ⟨rfl, (by have hb := HB.out; repeat' (first | (with_reducible exact Below.refl _ _) | (with_reducible assumption) | (with_reducible refine below_drewN ?_ _) | (with_reducible refine Below.drew ?_) | (with_reducible refine bl_alloc ?_ _) | (with_reducible refine bl_set ?_ ?_ _) | go_size | omega))⟩
set_option maxRecDepth 100000 in
set_option maxHeartbeats 8000000 in
theorem lw_other (p q a n : Int) (x gd : Bool) (s u t : ByteArray) (w : World) (hf : fitB p q a = true) (m0 : (u.toList == [115, 101, 116]) = false) (m1 : (u.toList == [97, 100, 100]) = false) (m2 : (u.toList == [115, 117, 98]) = false) (m3 : (u.toList == [109, 117, 108]) = false) (m4 : (u.toList == [100, 105, 118]) = false) (m5 : (u.toList == [102, 111, 114, 109, 97, 116]) = false) (n1 : (s.toList == [99, 108, 101, 97, 114]) = false) (n2 : (s.toList == [99, 117, 116]) = false) (n3 : (s.toList == [115, 113, 114, 116]) = false) (n4 : (s.toList == [112, 111, 119, 101, 114]) = false) (n5 : (s.toList == [119, 104, 111, 108, 101]) = false) (hw : ∀ w', Calls Tryz.prog 28 #[.string s] w' fun e w'' => e = .returned (.tuple #[.string u, .string t]) ∧ ∃ n, w'' = w'.drewN n) (hread : ∀ w', Calls Tryz.prog 29 #[.agg #[.int .i64 p, .int .i64 q], .string t] w' fun e w'' => e = .returned (.tuple #[.int .i64 n, .bool gd]) ∧ Below w'.heap.size w' w'') :
    Calls Tryz.prog 9 #[.agg #[.int .i64 p, .int .i64 q, .int .i64 a, .bool x], .string s] w fun e w' => e = .returned (.tuple #[.agg #[.int .i64 (p), .int .i64 (q), .int .i64 (a), .bool (x)], .string ⟨#[119, 104, 97, 116]⟩]) ∧ Below w.heap.size w w' := by
  have CV := Lib.hid (fun w' => calv_spec p q a x w' hf)
  have HW := Lib.hid hw
  have HRD := Lib.hid hread
  clear hw hread
  have HI : Hid (InA w p q a x ((w.alloc (.cells #[.int .i64 p, .int .i64 q, .int .i64 a, .bool x] 26)).alloc (.cells #[.int .i64 0, .int .i64 0, .int .i64 0, .bool false] 26))) := Lib.hid (InA.start w p q a x)
  go_enter Tryz.func9, Tryz.ntmps9
  go_wp2_with fail
  refine (CV.out _).mono ?_
  rintro e w1 ⟨rfl, hb⟩
  have hI := HI.out.below hb
  clear HI hb
  obtain ⟨kx0, kx1, kx2, kx3⟩ := blk4c hI.c
  have HI := Lib.hid hI
  clear hI
  go_wp2_with fail
  refine (HW.out _).mono ?_
  rintro e w2 ⟨rfl, nq, rfl⟩
  have HI := Lib.hid (HI.out.drewN nq)
  go_wp2_with fail
  refine (HRD.out _).mono ?_
  rintro e w3 ⟨rfl, hb⟩
  have hI := HI.out.below hb
  clear HI hb kx0 kx1 kx2 kx3
  obtain ⟨kx0, kx1, kx2, kx3⟩ := blk4c hI.c
  obtain ⟨d0, d1, d2, d3⟩ := blk4c hI.r
  obtain ⟨f0, f1, f2, f3⟩ := blk4f hI.r
  have hl1 := hI.c.lt
  have hl2 := hI.r.lt
  have HI0 := Lib.hid hI
  have HK := Lib.hid (Blk.new w3 24 #[.int .i64 p, .int .i64 q])
  have HI := Lib.hid (hI.alloc (.cells #[.int .i64 p, .int .i64 q] 24))
  have hle := hI.bel.size
  clear hI
  go_wp2_with fail
  have bk := Lib.hid (((((HI0.out.r.set 0 (.int .i64 p)).set 1 (.int .i64 q)).set 2 (.int .i64 a)).set 3 (.bool x)).alloc (.cells #[.int .i64 p, .int .i64 q] 24))
  have HB := Lib.hid HI0.out.bel
  have BK : Blk _ (w.heap.size + 1) 26 #[.int .i64 (p), .int .i64 (q), .int .i64 (a), .bool (x)] := bk.out
  obtain ⟨q0, q1, q2, q3⟩ := blk4c BK
  refine bodyPost_ret (v := .tuple #[.agg #[.int .i64 (p), .int .i64 (q), .int .i64 (a), .bool (x)], .string ⟨#[119, 104, 97, 116]⟩]) (by simp [results, Tryz.results9, go_sem, q0, q1, q2, q3]) rfl ?_
  exact ⟨rfl, (by have hb := HB.out; repeat' (first | (with_reducible exact Below.refl _ _) | (with_reducible assumption) | (with_reducible refine below_drewN ?_ _) | (with_reducible refine Below.drew ?_) | (with_reducible refine bl_alloc ?_ _) | (with_reducible refine bl_set ?_ ?_ _) | go_size | omega))⟩
set_option maxRecDepth 100000 in
set_option maxHeartbeats 8000000 in
theorem lw_neg (p q a n : Int) (x gd : Bool) (t : ByteArray) (w : World) (hf : fitB p q a = true) (h0 : a < 0)  (hw : ∀ w', Calls Tryz.prog 28 #[.string ⟨#[115, 113, 114, 116]⟩] w' fun e w'' => e = .returned (.tuple #[.string ⟨#[115, 113, 114, 116]⟩, .string t]) ∧ ∃ n, w'' = w'.drewN n) (hread : ∀ w', Calls Tryz.prog 29 #[.agg #[.int .i64 p, .int .i64 q], .string t] w' fun e w'' => e = .returned (.tuple #[.int .i64 n, .bool gd]) ∧ Below w'.heap.size w' w'') :
    Calls Tryz.prog 9 #[.agg #[.int .i64 p, .int .i64 q, .int .i64 a, .bool x], .string ⟨#[115, 113, 114, 116]⟩] w fun e w' => e = .returned (.tuple #[.agg #[.int .i64 (p), .int .i64 (q), .int .i64 (a), .bool (x)], .string ⟨#[119, 104, 97, 116]⟩]) ∧ Below w.heap.size w w' := by
  have CV := Lib.hid (fun w' => calv_spec p q a x w' hf)
  have HW := Lib.hid hw
  have HRD := Lib.hid hread
  clear hw hread
  have HI : Hid (InA w p q a x ((w.alloc (.cells #[.int .i64 p, .int .i64 q, .int .i64 a, .bool x] 26)).alloc (.cells #[.int .i64 0, .int .i64 0, .int .i64 0, .bool false] 26))) := Lib.hid (InA.start w p q a x)
  go_enter Tryz.func9, Tryz.ntmps9
  go_wp2_with fail
  refine (CV.out _).mono ?_
  rintro e w1 ⟨rfl, hb⟩
  have hI := HI.out.below hb
  clear HI hb
  obtain ⟨kx0, kx1, kx2, kx3⟩ := blk4c hI.c
  have HI := Lib.hid hI
  clear hI
  go_wp2_with fail
  refine (HW.out _).mono ?_
  rintro e w2 ⟨rfl, nq, rfl⟩
  have HI := Lib.hid (HI.out.drewN nq)
  go_wp2_with fail
  refine (HRD.out _).mono ?_
  rintro e w3 ⟨rfl, hb⟩
  have hI := HI.out.below hb
  clear HI hb kx0 kx1 kx2 kx3
  obtain ⟨kx0, kx1, kx2, kx3⟩ := blk4c hI.c
  obtain ⟨d0, d1, d2, d3⟩ := blk4c hI.r
  obtain ⟨f0, f1, f2, f3⟩ := blk4f hI.r
  have hl1 := hI.c.lt
  have hl2 := hI.r.lt
  have HI0 := Lib.hid hI
  have HK := Lib.hid (Blk.new w3 24 #[.int .i64 p, .int .i64 q])
  have HI := Lib.hid (hI.alloc (.cells #[.int .i64 p, .int .i64 q] 24))
  have hle := hI.bel.size
  clear hI
  go_wp2_with fail
  have bk := Lib.hid (((((HI0.out.r.set 0 (.int .i64 p)).set 1 (.int .i64 q)).set 2 (.int .i64 a)).set 3 (.bool x)).alloc (.cells #[.int .i64 p, .int .i64 q] 24))
  have HB := Lib.hid HI0.out.bel
  have BK : Blk _ (w.heap.size + 1) 26 #[.int .i64 (p), .int .i64 (q), .int .i64 (a), .bool (x)] := bk.out
  obtain ⟨q0, q1, q2, q3⟩ := blk4c BK
  refine bodyPost_ret (v := .tuple #[.agg #[.int .i64 (p), .int .i64 (q), .int .i64 (a), .bool (x)], .string ⟨#[119, 104, 97, 116]⟩]) (by simp [results, Tryz.results9, go_sem, q0, q1, q2, q3]) rfl ?_
  exact ⟨rfl, (by have hb := HB.out; repeat' (first | (with_reducible exact Below.refl _ _) | (with_reducible assumption) | (with_reducible refine below_drewN ?_ _) | (with_reducible refine Below.drew ?_) | (with_reducible refine bl_alloc ?_ _) | (with_reducible refine bl_set ?_ ?_ _) | go_size | omega))⟩
set_option maxRecDepth 100000 in
set_option maxHeartbeats 8000000 in
theorem lw_fmt (p q a n A B : Int) (x gd : Bool) (s t : ByteArray) (w : World) (hf : fitB p q a = true) (n1 : (s.toList == [99, 108, 101, 97, 114]) = false) (n2 : (s.toList == [99, 117, 116]) = false) (n3 : (s.toList == [115, 113, 114, 116]) = false) (n4 : (s.toList == [112, 111, 119, 101, 114]) = false) (n5 : (s.toList == [119, 104, 111, 108, 101]) = false) (hw : ∀ w', Calls Tryz.prog 28 #[.string s] w' fun e w'' => e = .returned (.tuple #[.string ⟨#[102, 111, 114, 109, 97, 116]⟩, .string t]) ∧ ∃ n, w'' = w'.drewN n) (hread : ∀ w', Calls Tryz.prog 29 #[.agg #[.int .i64 p, .int .i64 q], .string t] w' fun e w'' => e = .returned (.tuple #[.int .i64 n, .bool gd]) ∧ Below w'.heap.size w' w'') (hrf : ∀ w', Calls Tryz.prog 38 #[.string t] w' fun e w'' => e = .returned (.tuple #[.agg #[.int .i64 A, .int .i64 B], .bool false]) ∧ Below w'.heap.size w' w'') :
    Calls Tryz.prog 9 #[.agg #[.int .i64 p, .int .i64 q, .int .i64 a, .bool x], .string s] w fun e w' => e = .returned (.tuple #[.agg #[.int .i64 (p), .int .i64 (q), .int .i64 (a), .bool (x)], .string ⟨#[119, 104, 97, 116]⟩]) ∧ Below w.heap.size w w' := by
  have HRF := Lib.hid hrf
  clear hrf
  have CV := Lib.hid (fun w' => calv_spec p q a x w' hf)
  have HW := Lib.hid hw
  have HRD := Lib.hid hread
  clear hw hread
  have HI : Hid (InA w p q a x ((w.alloc (.cells #[.int .i64 p, .int .i64 q, .int .i64 a, .bool x] 26)).alloc (.cells #[.int .i64 0, .int .i64 0, .int .i64 0, .bool false] 26))) := Lib.hid (InA.start w p q a x)
  go_enter Tryz.func9, Tryz.ntmps9
  go_wp2_with fail
  refine (CV.out _).mono ?_
  rintro e w1 ⟨rfl, hb⟩
  have hI := HI.out.below hb
  clear HI hb
  obtain ⟨kx0, kx1, kx2, kx3⟩ := blk4c hI.c
  have HI := Lib.hid hI
  clear hI
  go_wp2_with fail
  refine (HW.out _).mono ?_
  rintro e w2 ⟨rfl, nq, rfl⟩
  have HI := Lib.hid (HI.out.drewN nq)
  go_wp2_with fail
  refine (HRD.out _).mono ?_
  rintro e w3 ⟨rfl, hb⟩
  have hI := HI.out.below hb
  clear HI hb kx0 kx1 kx2 kx3
  obtain ⟨kx0, kx1, kx2, kx3⟩ := blk4c hI.c
  obtain ⟨d0, d1, d2, d3⟩ := blk4c hI.r
  obtain ⟨f0, f1, f2, f3⟩ := blk4f hI.r
  have hl1 := hI.c.lt
  have hl2 := hI.r.lt
  have HI0 := Lib.hid hI
  have HK := Lib.hid (Blk.new w3 24 #[.int .i64 p, .int .i64 q])
  have HI := Lib.hid (hI.alloc (.cells #[.int .i64 p, .int .i64 q] 24))
  have hle := hI.bel.size
  clear hI
  go_wp2_with fail
  refine (HRF.out _).mono ?_
  rintro e w4 ⟨rfl, hb⟩
  have hI := HI.out.below hb
  clear HI HI0 hb kx0 kx1 kx2 kx3 d0 d1 d2 d3 f0 f1 f2 f3
  obtain ⟨kx0, kx1, kx2, kx3⟩ := blk4c hI.c
  obtain ⟨d0, d1, d2, d3⟩ := blk4c hI.r
  obtain ⟨f0, f1, f2, f3⟩ := blk4f hI.r
  have hl3 := hI.c.lt
  have hl4 := hI.r.lt
  have HI0 := Lib.hid hI
  clear hI
  go_wp2_with fail
  have bk := Lib.hid (((((HI0.out.r.set 0 (.int .i64 p)).set 1 (.int .i64 q)).set 2 (.int .i64 a)).set 3 (.bool x)).alloc (.cells #[.int .i64 A, .int .i64 B] 24))
  have HB := Lib.hid HI0.out.bel
  have BK : Blk _ (w.heap.size + 1) 26 #[.int .i64 (p), .int .i64 (q), .int .i64 (a), .bool (x)] := bk.out
  obtain ⟨q0, q1, q2, q3⟩ := blk4c BK
  refine bodyPost_ret (v := .tuple #[.agg #[.int .i64 (p), .int .i64 (q), .int .i64 (a), .bool (x)], .string ⟨#[119, 104, 97, 116]⟩]) (by simp [results, Tryz.results9, go_sem, q0, q1, q2, q3]) rfl ?_
  exact ⟨rfl, (by have hb := HB.out; repeat' (first | (with_reducible exact Below.refl _ _) | (with_reducible assumption) | (with_reducible refine below_drewN ?_ _) | (with_reducible refine Below.drew ?_) | (with_reducible refine bl_alloc ?_ _) | (with_reducible refine bl_set ?_ ?_ _) | go_size | omega))⟩
end Go.Proofs.YtidnnnjjpjadlaaGreatDoor
