/- CalculatorLine of the reference: sqrt, power. No condition: contracts for the walks of the laws. -/
import Derived.Test.YtidnnnjjpjadlaaGreatDoorLs1
namespace Go.Proofs.YtidnnnjjpjadlaaGreatDoor
open Go.ChangeShapes Go.WideShapes Go.ChangeAt Go.RowKit

attribute [local go_sem] quiet2 at2 upon2
set_option maxRecDepth 100000 in
set_option maxHeartbeats 8000000 in
theorem ls_sqrt (p q a n : Int) (x gd : Bool) (t : ByteArray) (w : World) (hf : fitB p q a = true) (h0 : 0 ≤ a) (hw : ∀ w', Calls Tryz.prog 28 #[.string ⟨#[115, 113, 114, 116]⟩] w' fun e w'' => e = .returned (.tuple #[.string ⟨#[115, 113, 114, 116]⟩, .string t]) ∧ ∃ n, w'' = w'.drewN n) (hread : ∀ w', Calls Tryz.prog 29 #[.agg #[.int .i64 p, .int .i64 q], .string t] w' fun e w'' => e = .returned (.tuple #[.int .i64 n, .bool gd]) ∧ Below w'.heap.size w' w'') :
    Calls Tryz.prog 9 #[.agg #[.int .i64 p, .int .i64 q, .int .i64 a, .bool x], .string ⟨#[115, 113, 114, 116]⟩] w fun e w' => e = .returned (.tuple #[.agg #[.int .i64 (p), .int .i64 (q), .int .i64 (isq (a * 2 ^ q.toNat)), .bool (x || !(true))], .string (sOf (sText p q (isq (a * 2 ^ q.toNat))))]) ∧ Below w.heap.size w w' := by
  have OP := Lib.hid (fun w' => sq_spec_pos p q a w' hf h0)
  have CV := Lib.hid (fun w' => calv_spec p q a x w' hf)
  have HW := Lib.hid hw
  have HRD := Lib.hid hread
  clear hw hread
  have HI : Hid (InA w p q a x ((w.alloc (.cells #[.int .i64 p, .int .i64 q, .int .i64 a, .bool x] 26)).alloc (.cells #[.int .i64 0, .int .i64 0, .int .i64 0, .bool false] 26))) := Lib.hid (InA.start w p q a x)
  go_enter Tryz.func9, Tryz.ntmps9
  go_wp2_with fail
  refine (CV.out _).mono ?_
  rintro e w1 ⟨rfl, hb⟩
  have hI := HI.out.below hb
  clear HI hb
  obtain ⟨kx0, kx1, kx2, kx3⟩ := blk4c hI.c
  have HI := Lib.hid hI
  clear hI
  go_wp2_with fail
  refine (HW.out _).mono ?_
  rintro e w2 ⟨rfl, nq, rfl⟩
  have HI := Lib.hid (HI.out.drewN nq)
  go_wp2_with fail
  refine (HRD.out _).mono ?_
  rintro e w3 ⟨rfl, hb⟩
  have hI := HI.out.below hb
  clear HI hb kx0 kx1 kx2 kx3
  obtain ⟨kx0, kx1, kx2, kx3⟩ := blk4c hI.c
  obtain ⟨d0, d1, d2, d3⟩ := blk4c hI.r
  obtain ⟨f0, f1, f2, f3⟩ := blk4f hI.r
  have hl1 := hI.c.lt
  have hl2 := hI.r.lt
  have HI0 := Lib.hid hI
  have HK := Lib.hid (Blk.new w3 24 #[.int .i64 p, .int .i64 q])
  have HI := Lib.hid (hI.alloc (.cells #[.int .i64 p, .int .i64 q] 24))
  have hle := hI.bel.size
  clear hI
  go_wp2_with fail
  refine (OP.out _).mono ?_
  rintro e w4 ⟨rfl, hb⟩
  have hI := HI.out.below hb
  have hK := HK.out.below hb HK.out.lt
  clear HI HK hb kx0 kx1 kx2 kx3 d0 d1 d2 d3 f0 f1 f2 f3
  have HL : Hid (∀ F, InL w p q a x w3.heap.size p q F 0 w4) := Lib.hid (fun F => ⟨hI.bel, hI.c, hI.r, hK⟩)
  clear hI hK
  cases x
  · go_wp2_with fail
    refine wp_region_quiet2 (InL w p q a false w3.heap.size p q #[.int .i64 (p), .int .i64 (q), .int .i64 (isq (a * 2 ^ q.toNat)), .bool (!(true))]) (mark 12) 0 (mark_comm 12) (by kernel_rfl) (by kernel_rfl) (HL.out _).drew ?_
    repeat
      (refine walk2_step (fun K hK => ?_)
       go_simp
       first
         | (refine hK _ _ ?_; clear hK K)
         | (apply Exists.intro
            refine ⟨fun k w' hw' => ?_, hK _ _ ?_⟩
            first
              | (go_at_call 40; with_reducible refine Calls.mono (st_spec p q (isq (a * 2 ^ q.toNat)) _) ?_; rintro e w2 ⟨rfl, hb2⟩; exact ⟨rfl, (hw'.below hb2).on (by decide)⟩)
              | (obtain ⟨c0, c1, c2, c3⟩ := blk4c hw'.c; obtain ⟨b0, b1, -, -, -⟩ := blk2 hw'.kd; go_simp; exact ⟨hw'.on (by decide), rfl⟩)
            clear hK K)
         | (refine ⟨⟨undef, fun k w' hw' => ?_⟩, hK _ _ ?_⟩
            (obtain ⟨c0, c1, c2, c3⟩ := blk4k hw'.r; obtain ⟨f0, f1, f2, f3⟩ := blk4f hw'.r; go_simp; exact hw'.put.here)
            clear hK K))
    refine walk2_nil ?_
    intro w9 hw9
    have BK : Blk w9 (w.heap.size + 1) 26 #[.int .i64 (p), .int .i64 (q), .int .i64 (isq (a * 2 ^ q.toNat)), .bool (!(true))] := hw9.r
    obtain ⟨q0, q1, q2, q3⟩ := blk4c BK
    have HB := Lib.hid hw9.bel
    clear hw9
    go_wp2_with fail
    refine bodyPost_ret (v := .tuple #[.agg #[.int .i64 (p), .int .i64 (q), .int .i64 (isq (a * 2 ^ q.toNat)), .bool (!(true))], .string (sOf (sText p q (isq (a * 2 ^ q.toNat))))]) (by simp [results, Tryz.results9, go_sem, q0, q1, q2, q3]) rfl ?_
    exact ⟨rfl, (by have hb := HB.out; repeat' (first | (with_reducible exact Below.refl _ _) | (with_reducible assumption) | (with_reducible refine below_drewN ?_ _) | (with_reducible refine Below.drew ?_) | (with_reducible refine bl_alloc ?_ _) | (with_reducible refine bl_set ?_ ?_ _) | go_size | omega))⟩
  · go_wp2_with fail
    refine wp_region_quiet2 (InL w p q a true w3.heap.size p q #[.int .i64 (p), .int .i64 (q), .int .i64 (isq (a * 2 ^ q.toNat)), .bool (true)]) (mark 12) 0 (mark_comm 12) (by kernel_rfl) (by kernel_rfl) (HL.out _).drew ?_
    repeat
      (refine walk2_step (fun K hK => ?_)
       go_simp
       first
         | (refine hK _ _ ?_; clear hK K)
         | (apply Exists.intro
            refine ⟨fun k w' hw' => ?_, hK _ _ ?_⟩
            first
              | (go_at_call 40; with_reducible refine Calls.mono (st_spec p q (isq (a * 2 ^ q.toNat)) _) ?_; rintro e w2 ⟨rfl, hb2⟩; exact ⟨rfl, (hw'.below hb2).on (by decide)⟩)
              | (obtain ⟨c0, c1, c2, c3⟩ := blk4c hw'.c; obtain ⟨b0, b1, -, -, -⟩ := blk2 hw'.kd; go_simp; exact ⟨hw'.on (by decide), rfl⟩)
            clear hK K)
         | (refine ⟨⟨undef, fun k w' hw' => ?_⟩, hK _ _ ?_⟩
            (obtain ⟨c0, c1, c2, c3⟩ := blk4k hw'.r; obtain ⟨f0, f1, f2, f3⟩ := blk4f hw'.r; go_simp; exact hw'.put.here)
            clear hK K))
    refine walk2_nil ?_
    intro w9 hw9
    have BK : Blk w9 (w.heap.size + 1) 26 #[.int .i64 (p), .int .i64 (q), .int .i64 (isq (a * 2 ^ q.toNat)), .bool (true)] := hw9.r
    obtain ⟨q0, q1, q2, q3⟩ := blk4c BK
    have HB := Lib.hid hw9.bel
    clear hw9
    go_wp2_with fail
    refine bodyPost_ret (v := .tuple #[.agg #[.int .i64 (p), .int .i64 (q), .int .i64 (isq (a * 2 ^ q.toNat)), .bool (true)], .string (sOf (sText p q (isq (a * 2 ^ q.toNat))))]) (by simp [results, Tryz.results9, go_sem, q0, q1, q2, q3]) rfl ?_
    exact ⟨rfl, (by have hb := HB.out; repeat' (first | (with_reducible exact Below.refl _ _) | (with_reducible assumption) | (with_reducible refine below_drewN ?_ _) | (with_reducible refine Below.drew ?_) | (with_reducible refine bl_alloc ?_ _) | (with_reducible refine bl_set ?_ ?_ _) | go_size | omega))⟩
set_option maxRecDepth 100000 in
set_option maxHeartbeats 8000000 in
theorem ls_power (p q a n : Int) (x gd : Bool) (t : ByteArray) (w : World) (hf : fitB p q a = true) (hw : ∀ w', Calls Tryz.prog 28 #[.string ⟨#[112, 111, 119, 101, 114]⟩] w' fun e w'' => e = .returned (.tuple #[.string ⟨#[112, 111, 119, 101, 114]⟩, .string t]) ∧ ∃ n, w'' = w'.drewN n) (hread : ∀ w', Calls Tryz.prog 29 #[.agg #[.int .i64 p, .int .i64 q], .string t] w' fun e w'' => e = .returned (.tuple #[.int .i64 n, .bool gd]) ∧ Below w'.heap.size w' w'') :
    Calls Tryz.prog 9 #[.agg #[.int .i64 p, .int .i64 q, .int .i64 a, .bool x], .string ⟨#[112, 111, 119, 101, 114]⟩] w fun e w' => e = .returned (.tuple #[.agg #[.int .i64 (p), .int .i64 (q), .int .i64 (pwN p q a), .bool (x || !(pwOk p q a))], .string (sOf (sText p q (pwN p q a)))]) ∧ Below w.heap.size w w' := by
  have OP := Lib.hid (fun w' => pst_spec p q a w' hf)
  have CV := Lib.hid (fun w' => calv_spec p q a x w' hf)
  have HW := Lib.hid hw
  have HRD := Lib.hid hread
  clear hw hread
  have HI : Hid (InA w p q a x ((w.alloc (.cells #[.int .i64 p, .int .i64 q, .int .i64 a, .bool x] 26)).alloc (.cells #[.int .i64 0, .int .i64 0, .int .i64 0, .bool false] 26))) := Lib.hid (InA.start w p q a x)
  go_enter Tryz.func9, Tryz.ntmps9
  go_wp2_with fail
  refine (CV.out _).mono ?_
  rintro e w1 ⟨rfl, hb⟩
  have hI := HI.out.below hb
  clear HI hb
  obtain ⟨kx0, kx1, kx2, kx3⟩ := blk4c hI.c
  have HI := Lib.hid hI
  clear hI
  go_wp2_with fail
  refine (HW.out _).mono ?_
  rintro e w2 ⟨rfl, nq, rfl⟩
  have HI := Lib.hid (HI.out.drewN nq)
  go_wp2_with fail
  refine (HRD.out _).mono ?_
  rintro e w3 ⟨rfl, hb⟩
  have hI := HI.out.below hb
  clear HI hb kx0 kx1 kx2 kx3
  obtain ⟨kx0, kx1, kx2, kx3⟩ := blk4c hI.c
  obtain ⟨d0, d1, d2, d3⟩ := blk4c hI.r
  obtain ⟨f0, f1, f2, f3⟩ := blk4f hI.r
  have hl1 := hI.c.lt
  have hl2 := hI.r.lt
  have HI0 := Lib.hid hI
  have HK := Lib.hid (Blk.new w3 24 #[.int .i64 p, .int .i64 q])
  have HI := Lib.hid (hI.alloc (.cells #[.int .i64 p, .int .i64 q] 24))
  have hle := hI.bel.size
  clear hI
  go_wp2_with fail
  refine (OP.out _).mono ?_
  rintro e w4 ⟨rfl, hb⟩
  have hI := HI.out.below hb
  have hK := HK.out.below hb HK.out.lt
  clear HI HK hb kx0 kx1 kx2 kx3 d0 d1 d2 d3 f0 f1 f2 f3
  have HL : Hid (∀ F, InL w p q a x w3.heap.size p q F 0 w4) := Lib.hid (fun F => ⟨hI.bel, hI.c, hI.r, hK⟩)
  clear hI hK
  cases x
  · go_wp2_with fail
    refine wp_region_quiet2 (InL w p q a false w3.heap.size p q #[.int .i64 (p), .int .i64 (q), .int .i64 (pwN p q a), .bool (!(pwOk p q a))]) (mark 12) 0 (mark_comm 12) (by kernel_rfl) (by kernel_rfl) (HL.out _).drew ?_
    repeat
      (refine walk2_step (fun K hK => ?_)
       go_simp
       first
         | (refine hK _ _ ?_; clear hK K)
         | (apply Exists.intro
            refine ⟨fun k w' hw' => ?_, hK _ _ ?_⟩
            first
              | (go_at_call 40; with_reducible refine Calls.mono (st_spec p q (pwN p q a) _) ?_; rintro e w2 ⟨rfl, hb2⟩; exact ⟨rfl, (hw'.below hb2).on (by decide)⟩)
              | (obtain ⟨c0, c1, c2, c3⟩ := blk4c hw'.c; obtain ⟨b0, b1, -, -, -⟩ := blk2 hw'.kd; go_simp; exact ⟨hw'.on (by decide), rfl⟩)
            clear hK K)
         | (refine ⟨⟨undef, fun k w' hw' => ?_⟩, hK _ _ ?_⟩
            (obtain ⟨c0, c1, c2, c3⟩ := blk4k hw'.r; obtain ⟨f0, f1, f2, f3⟩ := blk4f hw'.r; go_simp; exact hw'.put.here)
            clear hK K))
    refine walk2_nil ?_
    intro w9 hw9
    have BK : Blk w9 (w.heap.size + 1) 26 #[.int .i64 (p), .int .i64 (q), .int .i64 (pwN p q a), .bool (!(pwOk p q a))] := hw9.r
    obtain ⟨q0, q1, q2, q3⟩ := blk4c BK
    have HB := Lib.hid hw9.bel
    clear hw9
    go_wp2_with fail
    refine bodyPost_ret (v := .tuple #[.agg #[.int .i64 (p), .int .i64 (q), .int .i64 (pwN p q a), .bool (!(pwOk p q a))], .string (sOf (sText p q (pwN p q a)))]) (by simp [results, Tryz.results9, go_sem, q0, q1, q2, q3]) rfl ?_
    exact ⟨rfl, (by have hb := HB.out; repeat' (first | (with_reducible exact Below.refl _ _) | (with_reducible assumption) | (with_reducible refine below_drewN ?_ _) | (with_reducible refine Below.drew ?_) | (with_reducible refine bl_alloc ?_ _) | (with_reducible refine bl_set ?_ ?_ _) | go_size | omega))⟩
  · go_wp2_with fail
    refine wp_region_quiet2 (InL w p q a true w3.heap.size p q #[.int .i64 (p), .int .i64 (q), .int .i64 (pwN p q a), .bool (true)]) (mark 12) 0 (mark_comm 12) (by kernel_rfl) (by kernel_rfl) (HL.out _).drew ?_
    repeat
      (refine walk2_step (fun K hK => ?_)
       go_simp
       first
         | (refine hK _ _ ?_; clear hK K)
         | (apply Exists.intro
            refine ⟨fun k w' hw' => ?_, hK _ _ ?_⟩
            first
              | (go_at_call 40; with_reducible refine Calls.mono (st_spec p q (pwN p q a) _) ?_; rintro e w2 ⟨rfl, hb2⟩; exact ⟨rfl, (hw'.below hb2).on (by decide)⟩)
              | (obtain ⟨c0, c1, c2, c3⟩ := blk4c hw'.c; obtain ⟨b0, b1, -, -, -⟩ := blk2 hw'.kd; go_simp; exact ⟨hw'.on (by decide), rfl⟩)
            clear hK K)
         | (refine ⟨⟨undef, fun k w' hw' => ?_⟩, hK _ _ ?_⟩
            (obtain ⟨c0, c1, c2, c3⟩ := blk4k hw'.r; obtain ⟨f0, f1, f2, f3⟩ := blk4f hw'.r; go_simp; exact hw'.put.here)
            clear hK K))
    refine walk2_nil ?_
    intro w9 hw9
    have BK : Blk w9 (w.heap.size + 1) 26 #[.int .i64 (p), .int .i64 (q), .int .i64 (pwN p q a), .bool (true)] := hw9.r
    obtain ⟨q0, q1, q2, q3⟩ := blk4c BK
    have HB := Lib.hid hw9.bel
    clear hw9
    go_wp2_with fail
    refine bodyPost_ret (v := .tuple #[.agg #[.int .i64 (p), .int .i64 (q), .int .i64 (pwN p q a), .bool (true)], .string (sOf (sText p q (pwN p q a)))]) (by simp [results, Tryz.results9, go_sem, q0, q1, q2, q3]) rfl ?_
    exact ⟨rfl, (by have hb := HB.out; repeat' (first | (with_reducible exact Below.refl _ _) | (with_reducible assumption) | (with_reducible refine below_drewN ?_ _) | (with_reducible refine Below.drew ?_) | (with_reducible refine bl_alloc ?_ _) | (with_reducible refine bl_set ?_ ?_ _) | go_size | omega))⟩
end Go.Proofs.YtidnnnjjpjadlaaGreatDoor

/- CalculatorLine of the reference: whole. No condition: contracts for the walks of the laws. -/
namespace Go.Proofs.YtidnnnjjpjadlaaGreatDoor
open Go.ChangeShapes Go.WideShapes Go.ChangeAt Go.RowKit

attribute [local go_sem] quiet2 at2 upon2
set_option maxRecDepth 100000 in
set_option maxHeartbeats 8000000 in
theorem ls_whole (p q a n : Int) (x gd : Bool) (t : ByteArray) (w : World) (hf : fitB p q a = true) (hw : ∀ w', Calls Tryz.prog 28 #[.string ⟨#[119, 104, 111, 108, 101]⟩] w' fun e w'' => e = .returned (.tuple #[.string ⟨#[119, 104, 111, 108, 101]⟩, .string t]) ∧ ∃ n, w'' = w'.drewN n) (hread : ∀ w', Calls Tryz.prog 29 #[.agg #[.int .i64 p, .int .i64 q], .string t] w' fun e w'' => e = .returned (.tuple #[.int .i64 n, .bool gd]) ∧ Below w'.heap.size w' w'') :
    Calls Tryz.prog 9 #[.agg #[.int .i64 p, .int .i64 q, .int .i64 a, .bool x], .string ⟨#[119, 104, 111, 108, 101]⟩] w fun e w' => e = .returned (.tuple #[.agg #[.int .i64 (p), .int .i64 (q), .int .i64 (cutV p q (rnd a (2 ^ q.toNat) * 2 ^ q.toNat)), .bool (x || !(cutV p q (rnd a (2 ^ q.toNat) * 2 ^ q.toNat) == rnd a (2 ^ q.toNat) * 2 ^ q.toNat))], .string (sOf (sText p q (cutV p q (rnd a (2 ^ q.toNat) * 2 ^ q.toNat))))]) ∧ Below w.heap.size w w' := by
  obtain ⟨⟨h1, h2, h3, h4⟩, a1, a2⟩ := fitB_bd hf
  obtain ⟨u1, u2⟩ := p2_bd16 h3 h4
  have hwb := wh_bd (a := a) h3 h4 a1 a2
  have hw1 : IntKind.i64.wrap (rnd a (2 ^ q.toNat) * 2 ^ q.toNat) = rnd a (2 ^ q.toNat) * 2 ^ q.toNat := by rw [IntKind.wrap_i64]; omega
  have CV := Lib.hid (fun w' => calv_spec p q a x w' hf)
  have HW := Lib.hid hw
  have HRD := Lib.hid hread
  clear hw hread
  have HI : Hid (InA w p q a x ((w.alloc (.cells #[.int .i64 p, .int .i64 q, .int .i64 a, .bool x] 26)).alloc (.cells #[.int .i64 0, .int .i64 0, .int .i64 0, .bool false] 26))) := Lib.hid (InA.start w p q a x)
  go_enter Tryz.func9, Tryz.ntmps9
  go_wp2_with fail
  refine (CV.out _).mono ?_
  rintro e w1 ⟨rfl, hb⟩
  have hI := HI.out.below hb
  clear HI hb
  obtain ⟨kx0, kx1, kx2, kx3⟩ := blk4c hI.c
  have HI := Lib.hid hI
  clear hI
  go_wp2_with fail
  refine (HW.out _).mono ?_
  rintro e w2 ⟨rfl, nq, rfl⟩
  have HI := Lib.hid (HI.out.drewN nq)
  go_wp2_with fail
  refine (HRD.out _).mono ?_
  rintro e w3 ⟨rfl, hb⟩
  have hI := HI.out.below hb
  clear HI hb kx0 kx1 kx2 kx3
  obtain ⟨kx0, kx1, kx2, kx3⟩ := blk4c hI.c
  obtain ⟨d0, d1, d2, d3⟩ := blk4c hI.r
  obtain ⟨f0, f1, f2, f3⟩ := blk4f hI.r
  have hl1 := hI.c.lt
  have hl2 := hI.r.lt
  have HI0 := Lib.hid hI
  have HK := Lib.hid (Blk.new w3 24 #[.int .i64 p, .int .i64 q])
  have HI := Lib.hid (hI.alloc (.cells #[.int .i64 p, .int .i64 q] 24))
  have hle := hI.bel.size
  clear hI
  go_wp2_with fail
  have HL : Hid (∀ F, InL w p q a x w3.heap.size p q F 0 _) := Lib.hid (fun F => ⟨HI.out.bel, HI.out.c, HI.out.r, HK.out⟩)
  cases x
  · go_wp2_with fail
    refine wp_region_quietC (C := InL w p q a false w3.heap.size p q #[.int .i64 (p), .int .i64 (q), .int .i64 (cutV p q (rnd a (2 ^ q.toNat) * 2 ^ q.toNat)), .bool (!(cutV p q (rnd a (2 ^ q.toNat) * 2 ^ q.toNat) == rnd a (2 ^ q.toNat) * 2 ^ q.toNat))] 0) (by kernel_rfl) (by kernel_rfl) (HL.out _).drew ?_
    repeat
      (refine wpQuiet_step (fun K hK => ?_)
       go_simp
       first
         | (refine hK _ ?_; clear hK K)
         | (apply Exists.intro
            refine ⟨fun w' hw' => ?_, hK _ ?_⟩
            first
              | (go_at_call 37; with_reducible refine Calls.mono (wh_spec p q a _ hf) ?_; rintro e w2 ⟨rfl, hb2⟩; exact ⟨rfl, hw'.below hb2⟩)
              | (go_at_call 36; with_reducible refine Calls.mono (cut_spec p q (rnd a (2 ^ q.toNat) * 2 ^ q.toNat) _ h1 h2 h3 h4) ?_; rintro e w2 ⟨rfl, hb2⟩; exact ⟨rfl, hw'.below hb2⟩)
              | (obtain ⟨c0, c1, c2, c3⟩ := blk4c hw'.c; obtain ⟨b0, b1, -, -, -⟩ := blk2 hw'.kd; go_simp; rfl)
            clear hK K))
    refine wpQuiet_nil ?_
    intro w2 hw2
    have HV := Lib.hid hw2
    clear hw2
    go_wp2_with fail
    refine wp_region_quiet2 (InL w p q a false w3.heap.size p q #[.int .i64 (p), .int .i64 (q), .int .i64 (cutV p q (rnd a (2 ^ q.toNat) * 2 ^ q.toNat)), .bool (!(cutV p q (rnd a (2 ^ q.toNat) * 2 ^ q.toNat) == rnd a (2 ^ q.toNat) * 2 ^ q.toNat))]) (mark 12) 0 (mark_comm 12) (by kernel_rfl) (by kernel_rfl) HV.out.drew ?_
    repeat
      (refine walk2_step (fun K hK => ?_)
       go_simp
       first
         | (refine hK _ _ ?_; clear hK K)
         | (apply Exists.intro
            refine ⟨fun k w' hw' => ?_, hK _ _ ?_⟩
            first
              | (go_at_call 40; with_reducible refine Calls.mono (st_spec p q (cutV p q (rnd a (2 ^ q.toNat) * 2 ^ q.toNat)) _) ?_; rintro e w2 ⟨rfl, hb2⟩; exact ⟨rfl, (hw'.below hb2).on (by decide)⟩)
              | (obtain ⟨c0, c1, c2, c3⟩ := blk4c hw'.c; obtain ⟨b0, b1, -, -, -⟩ := blk2 hw'.kd; go_simp; exact ⟨hw'.on (by decide), rfl⟩)
            clear hK K)
         | (refine ⟨⟨undef, fun k w' hw' => ?_⟩, hK _ _ ?_⟩
            (obtain ⟨c0, c1, c2, c3⟩ := blk4k hw'.r; obtain ⟨f0, f1, f2, f3⟩ := blk4f hw'.r; go_simp; exact hw'.put.here)
            clear hK K))
    refine walk2_nil ?_
    intro w9 hw9
    have BK : Blk w9 (w.heap.size + 1) 26 #[.int .i64 (p), .int .i64 (q), .int .i64 (cutV p q (rnd a (2 ^ q.toNat) * 2 ^ q.toNat)), .bool (!(cutV p q (rnd a (2 ^ q.toNat) * 2 ^ q.toNat) == rnd a (2 ^ q.toNat) * 2 ^ q.toNat))] := hw9.r
    obtain ⟨q0, q1, q2, q3⟩ := blk4c BK
    have HB := Lib.hid hw9.bel
    clear hw9
    go_wp2_with fail
    refine bodyPost_ret (v := .tuple #[.agg #[.int .i64 (p), .int .i64 (q), .int .i64 (cutV p q (rnd a (2 ^ q.toNat) * 2 ^ q.toNat)), .bool (!(cutV p q (rnd a (2 ^ q.toNat) * 2 ^ q.toNat) == rnd a (2 ^ q.toNat) * 2 ^ q.toNat))], .string (sOf (sText p q (cutV p q (rnd a (2 ^ q.toNat) * 2 ^ q.toNat))))]) (by simp [results, Tryz.results9, go_sem, q0, q1, q2, q3]) rfl ?_
    exact ⟨rfl, (by have hb := HB.out; repeat' (first | (with_reducible exact Below.refl _ _) | (with_reducible assumption) | (with_reducible refine below_drewN ?_ _) | (with_reducible refine Below.drew ?_) | (with_reducible refine bl_alloc ?_ _) | (with_reducible refine bl_set ?_ ?_ _) | go_size | omega))⟩
  · go_wp2_with fail
    refine wp_region_quietC (C := InL w p q a true w3.heap.size p q #[.int .i64 (p), .int .i64 (q), .int .i64 (cutV p q (rnd a (2 ^ q.toNat) * 2 ^ q.toNat)), .bool (true)] 0) (by kernel_rfl) (by kernel_rfl) (HL.out _).drew ?_
    repeat
      (refine wpQuiet_step (fun K hK => ?_)
       go_simp
       first
         | (refine hK _ ?_; clear hK K)
         | (apply Exists.intro
            refine ⟨fun w' hw' => ?_, hK _ ?_⟩
            first
              | (go_at_call 37; with_reducible refine Calls.mono (wh_spec p q a _ hf) ?_; rintro e w2 ⟨rfl, hb2⟩; exact ⟨rfl, hw'.below hb2⟩)
              | (go_at_call 36; with_reducible refine Calls.mono (cut_spec p q (rnd a (2 ^ q.toNat) * 2 ^ q.toNat) _ h1 h2 h3 h4) ?_; rintro e w2 ⟨rfl, hb2⟩; exact ⟨rfl, hw'.below hb2⟩)
              | (obtain ⟨c0, c1, c2, c3⟩ := blk4c hw'.c; obtain ⟨b0, b1, -, -, -⟩ := blk2 hw'.kd; go_simp; rfl)
            clear hK K))
    refine wpQuiet_nil ?_
    intro w2 hw2
    have HV := Lib.hid hw2
    clear hw2
    go_wp2_with fail
    refine wp_region_quiet2 (InL w p q a true w3.heap.size p q #[.int .i64 (p), .int .i64 (q), .int .i64 (cutV p q (rnd a (2 ^ q.toNat) * 2 ^ q.toNat)), .bool (true)]) (mark 12) 0 (mark_comm 12) (by kernel_rfl) (by kernel_rfl) HV.out.drew ?_
    repeat
      (refine walk2_step (fun K hK => ?_)
       go_simp
       first
         | (refine hK _ _ ?_; clear hK K)
         | (apply Exists.intro
            refine ⟨fun k w' hw' => ?_, hK _ _ ?_⟩
            first
              | (go_at_call 40; with_reducible refine Calls.mono (st_spec p q (cutV p q (rnd a (2 ^ q.toNat) * 2 ^ q.toNat)) _) ?_; rintro e w2 ⟨rfl, hb2⟩; exact ⟨rfl, (hw'.below hb2).on (by decide)⟩)
              | (obtain ⟨c0, c1, c2, c3⟩ := blk4c hw'.c; obtain ⟨b0, b1, -, -, -⟩ := blk2 hw'.kd; go_simp; exact ⟨hw'.on (by decide), rfl⟩)
            clear hK K)
         | (refine ⟨⟨undef, fun k w' hw' => ?_⟩, hK _ _ ?_⟩
            (obtain ⟨c0, c1, c2, c3⟩ := blk4k hw'.r; obtain ⟨f0, f1, f2, f3⟩ := blk4f hw'.r; go_simp; exact hw'.put.here)
            clear hK K))
    refine walk2_nil ?_
    intro w9 hw9
    have BK : Blk w9 (w.heap.size + 1) 26 #[.int .i64 (p), .int .i64 (q), .int .i64 (cutV p q (rnd a (2 ^ q.toNat) * 2 ^ q.toNat)), .bool (true)] := hw9.r
    obtain ⟨q0, q1, q2, q3⟩ := blk4c BK
    have HB := Lib.hid hw9.bel
    clear hw9
    go_wp2_with fail
    refine bodyPost_ret (v := .tuple #[.agg #[.int .i64 (p), .int .i64 (q), .int .i64 (cutV p q (rnd a (2 ^ q.toNat) * 2 ^ q.toNat)), .bool (true)], .string (sOf (sText p q (cutV p q (rnd a (2 ^ q.toNat) * 2 ^ q.toNat))))]) (by simp [results, Tryz.results9, go_sem, q0, q1, q2, q3]) rfl ?_
    exact ⟨rfl, (by have hb := HB.out; repeat' (first | (with_reducible exact Below.refl _ _) | (with_reducible assumption) | (with_reducible refine below_drewN ?_ _) | (with_reducible refine Below.drew ?_) | (with_reducible refine bl_alloc ?_ _) | (with_reducible refine bl_set ?_ ?_ _) | go_size | omega))⟩
end Go.Proofs.YtidnnnjjpjadlaaGreatDoor
