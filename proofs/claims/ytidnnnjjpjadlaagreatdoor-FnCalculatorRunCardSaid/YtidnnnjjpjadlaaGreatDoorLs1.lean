/- CalculatorLine of the reference: set, add. No condition: contracts for the walks of the laws. -/
import Derived.Test.YtidnnnjjpjadlaaGreatDoorMlp
import Derived.Test.YtidnnnjjpjadlaaGreatDoorMafa
namespace Go.Proofs.YtidnnnjjpjadlaaGreatDoor
open Go.ChangeShapes Go.WideShapes Go.ChangeAt Go.RowKit

set_option maxHeartbeats 1000000 in
theorem calv_spec (p q a : Int) (x : Bool) (w : World) {b : Bool} (h : fitB p q a = b) : Calls Tryz.prog 10 #[.agg #[.int .i64 p, .int .i64 q, .int .i64 a, .bool x]] w fun e w' => e = .returned (.bool b) ∧ Below w.heap.size w w' := by
  have FA := Lib.hid (fun w' => fits_spec p q a w')
  rw [h] at FA
  clear h
  go_enter Tryz.func10, Tryz.ntmps10
  go_wp2_with fail
  refine (FA.out _).mono ?_
  rintro e w' ⟨rfl, hb⟩
  (repeat (replace hb := undrew hb)); (repeat (replace hb := unalloc hb))
  have HB := Lib.hid hb
  clear hb
  go_wp2_with fail
  go_ret
  exact ⟨rfl, HB.out⟩
/-- The worlds in the midst of the reference's last statement. -/
structure InL (w : World) (p q a : Int) (x : Bool) (g : Nat) (P Q : Int) (F : Array Value) (k : Nat) (w' : World) : Prop where
  bel : Below w.heap.size w w'
  c : Blk w' w.heap.size 26 #[.int .i64 p, .int .i64 q, .int .i64 a, .bool x]
  r : Blk w' (w.heap.size + 1) 26 (pickN k F #[.int .i64 0, .int .i64 0, .int .i64 0, .bool false])
  kd : Blk w' g 24 #[.int .i64 P, .int .i64 Q]
section
variable {w w1 w2 : World} {p q a P Q : Int} {x : Bool} {g k s i : Nat} {F : Array Value}
theorem InL.below (h : InL w p q a x g P Q F k w1) (hb : Below w1.heap.size w1 w2) : InL w p q a x g P Q F k w2 := ⟨bl_behind hb h.bel, h.c.below hb h.c.lt, h.r.below hb h.r.lt, h.kd.below hb h.kd.lt⟩
theorem InL.drew (h : InL w p q a x g P Q F k w1) : InL w p q a x g P Q F k { w1 with drawn := w1.drawn + 1 } := ⟨h.bel.drew, h.c.drew, h.r.drew, h.kd.drew⟩
theorem InL.on (h : InL w p q a x g P Q F k w1) (hi : i ≠ s) : InL w p q a x g P Q F (mark s i k) w1 := by unfold mark; rwa [if_neg hi]
theorem InL.here (h : InL w p q a x g P Q F 1 w1) : InL w p q a x g P Q F (mark s s k) w1 := by unfold mark; rwa [if_pos rfl]
theorem blk_ne {t t' : TypeId} {n m : Nat} {cs : Array Value} {u v : Value} (h : Blk w n t cs) (h' : Blk w m t' #[u, v]) (hc : cs.size = 4) : m ≠ n := by
  intro e
  subst e
  unfold Blk at h h'
  rw [h] at h'
  injection h' with h'
  injection h' with h1 _ _
  rw [h1] at hc
  cases hc
theorem pickN_size {F Z : Array Value} (h1 : F.size = 4) (h2 : Z.size = 4) : (pickN k F Z).size = 4 := by unfold pickN; split <;> assumption
theorem InL.put {A B C D : Value} (h : InL w p q a x g P Q #[A, B, C, D] k w1) :
    InL w p q a x g P Q #[A, B, C, D] 1 ((((w1.setCell ⟨w.heap.size + 1, 0, none⟩ A).setCell ⟨w.heap.size + 1, 1, none⟩ B).setCell ⟨w.heap.size + 1, 2, none⟩ C).setCell ⟨w.heap.size + 1, 3, none⟩ D) := by
  have hb : InB w p q a x #[A, B, C, D] k w1 := ⟨h.bel, h.c, h.r⟩
  have hp := hb.put
  have hne : g ≠ w.heap.size + 1 := blk_ne h.r h.kd (pickN_size rfl rfl)
  exact ⟨hp.bel, hp.c, hp.r, (((h.kd.far (p := ⟨w.heap.size + 1, 0, none⟩) hne _).far (p := ⟨w.heap.size + 1, 1, none⟩) hne _).far (p := ⟨w.heap.size + 1, 2, none⟩) hne _).far (p := ⟨w.heap.size + 1, 3, none⟩) hne _⟩
end
theorem add_sin (p q a b : Int) (w : World) (ha : fitB p q a = true) (hb : fitB p q b = true) : Calls Tryz.prog 30 #[.agg #[.int .i64 p, .int .i64 q], .int .i64 a, .int .i64 b] w fun e w' => e = .returned (.tuple #[.int .i64 (cutV p q (a + b)), .bool (cutV p q (a + b) == a + b)]) ∧ Below w.heap.size w w' := by
  obtain ⟨e1, e2⟩ := ad_in ha hb
  have k := add_spec p q a b w
  rw [e1, e2] at k
  exact k
attribute [local go_sem] quiet2 at2 upon2
set_option maxRecDepth 100000 in
set_option maxHeartbeats 8000000 in
theorem ls_set (p q a n : Int) (x : Bool) (s t : ByteArray) (w : World) (hf : fitB p q a = true) (n1 : (s.toList == [99, 108, 101, 97, 114]) = false) (n2 : (s.toList == [99, 117, 116]) = false) (hw : ∀ w', Calls Tryz.prog 28 #[.string s] w' fun e w'' => e = .returned (.tuple #[.string ⟨#[115, 101, 116]⟩, .string t]) ∧ ∃ n, w'' = w'.drewN n) (hread : ∀ w', Calls Tryz.prog 29 #[.agg #[.int .i64 p, .int .i64 q], .string t] w' fun e w'' => e = .returned (.tuple #[.int .i64 n, .bool true]) ∧ Below w'.heap.size w' w'') :
    Calls Tryz.prog 9 #[.agg #[.int .i64 p, .int .i64 q, .int .i64 a, .bool x], .string s] w fun e w' => e = .returned (.tuple #[.agg #[.int .i64 (p), .int .i64 (q), .int .i64 (n), .bool (x || !(true))], .string (sOf (sText p q (n)))]) ∧ Below w.heap.size w w' := by
  have CV := Lib.hid (fun w' => calv_spec p q a x w' hf)
  have HW := Lib.hid hw
  have HRD := Lib.hid hread
  clear hw hread
  have HI : Hid (InA w p q a x ((w.alloc (.cells #[.int .i64 p, .int .i64 q, .int .i64 a, .bool x] 26)).alloc (.cells #[.int .i64 0, .int .i64 0, .int .i64 0, .bool false] 26))) := Lib.hid (InA.start w p q a x)
  go_enter Tryz.func9, Tryz.ntmps9
  go_wp2_with fail
  refine (CV.out _).mono ?_
  rintro e w1 ⟨rfl, hb⟩
  have hI := HI.out.below hb
  clear HI hb
  obtain ⟨kx0, kx1, kx2, kx3⟩ := blk4c hI.c
  have HI := Lib.hid hI
  clear hI
  go_wp2_with fail
  refine (HW.out _).mono ?_
  rintro e w2 ⟨rfl, nq, rfl⟩
  have HI := Lib.hid (HI.out.drewN nq)
  go_wp2_with fail
  refine (HRD.out _).mono ?_
  rintro e w3 ⟨rfl, hb⟩
  have hI := HI.out.below hb
  clear HI hb kx0 kx1 kx2 kx3
  obtain ⟨kx0, kx1, kx2, kx3⟩ := blk4c hI.c
  obtain ⟨d0, d1, d2, d3⟩ := blk4c hI.r
  obtain ⟨f0, f1, f2, f3⟩ := blk4f hI.r
  have hl1 := hI.c.lt
  have hl2 := hI.r.lt
  have HI0 := Lib.hid hI
  have HK := Lib.hid (Blk.new w3 24 #[.int .i64 p, .int .i64 q])
  have HI := Lib.hid (hI.alloc (.cells #[.int .i64 p, .int .i64 q] 24))
  have hle := hI.bel.size
  clear hI
  go_wp2_with fail
  have HL : Hid (∀ F, InL w p q a x w3.heap.size p q F 0 _) := Lib.hid (fun F => ⟨HI.out.bel, HI.out.c, HI.out.r, HK.out⟩)
  cases x
  · go_wp2_with fail
    refine wp_region_quiet2 (InL w p q a false w3.heap.size p q #[.int .i64 (p), .int .i64 (q), .int .i64 (n), .bool (!(true))]) (mark 12) 0 (mark_comm 12) (by kernel_rfl) (by kernel_rfl) (HL.out _).drew ?_
    repeat
      (refine walk2_step (fun K hK => ?_)
       go_simp
       first
         | (refine hK _ _ ?_; clear hK K)
         | (apply Exists.intro
            refine ⟨fun k w' hw' => ?_, hK _ _ ?_⟩
            first
              | (go_at_call 40; with_reducible refine Calls.mono (st_spec p q (n) _) ?_; rintro e w2 ⟨rfl, hb2⟩; exact ⟨rfl, (hw'.below hb2).on (by decide)⟩)
              | (obtain ⟨c0, c1, c2, c3⟩ := blk4c hw'.c; obtain ⟨b0, b1, -, -, -⟩ := blk2 hw'.kd; go_simp; exact ⟨hw'.on (by decide), rfl⟩)
            clear hK K)
         | (refine ⟨⟨undef, fun k w' hw' => ?_⟩, hK _ _ ?_⟩
            (obtain ⟨c0, c1, c2, c3⟩ := blk4k hw'.r; obtain ⟨f0, f1, f2, f3⟩ := blk4f hw'.r; go_simp; exact hw'.put.here)
            clear hK K))
    refine walk2_nil ?_
    intro w9 hw9
    have BK : Blk w9 (w.heap.size + 1) 26 #[.int .i64 (p), .int .i64 (q), .int .i64 (n), .bool (!(true))] := hw9.r
    obtain ⟨q0, q1, q2, q3⟩ := blk4c BK
    have HB := Lib.hid hw9.bel
    clear hw9
    go_wp2_with fail
    refine bodyPost_ret (v := .tuple #[.agg #[.int .i64 (p), .int .i64 (q), .int .i64 (n), .bool (!(true))], .string (sOf (sText p q (n)))]) (by simp [results, Tryz.results9, go_sem, q0, q1, q2, q3]) rfl ?_
    exact ⟨rfl, (by have hb := HB.out; repeat' (first | (with_reducible exact Below.refl _ _) | (with_reducible assumption) | (with_reducible refine below_drewN ?_ _) | (with_reducible refine Below.drew ?_) | (with_reducible refine bl_alloc ?_ _) | (with_reducible refine bl_set ?_ ?_ _) | go_size | omega))⟩
  · go_wp2_with fail
    refine wp_region_quiet2 (InL w p q a true w3.heap.size p q #[.int .i64 (p), .int .i64 (q), .int .i64 (n), .bool (true)]) (mark 12) 0 (mark_comm 12) (by kernel_rfl) (by kernel_rfl) (HL.out _).drew ?_
    repeat
      (refine walk2_step (fun K hK => ?_)
       go_simp
       first
         | (refine hK _ _ ?_; clear hK K)
         | (apply Exists.intro
            refine ⟨fun k w' hw' => ?_, hK _ _ ?_⟩
            first
              | (go_at_call 40; with_reducible refine Calls.mono (st_spec p q (n) _) ?_; rintro e w2 ⟨rfl, hb2⟩; exact ⟨rfl, (hw'.below hb2).on (by decide)⟩)
              | (obtain ⟨c0, c1, c2, c3⟩ := blk4c hw'.c; obtain ⟨b0, b1, -, -, -⟩ := blk2 hw'.kd; go_simp; exact ⟨hw'.on (by decide), rfl⟩)
            clear hK K)
         | (refine ⟨⟨undef, fun k w' hw' => ?_⟩, hK _ _ ?_⟩
            (obtain ⟨c0, c1, c2, c3⟩ := blk4k hw'.r; obtain ⟨f0, f1, f2, f3⟩ := blk4f hw'.r; go_simp; exact hw'.put.here)
            clear hK K))
    refine walk2_nil ?_
    intro w9 hw9
    have BK : Blk w9 (w.heap.size + 1) 26 #[.int .i64 (p), .int .i64 (q), .int .i64 (n), .bool (true)] := hw9.r
    obtain ⟨q0, q1, q2, q3⟩ := blk4c BK
    have HB := Lib.hid hw9.bel
    clear hw9
    go_wp2_with fail
    refine bodyPost_ret (v := .tuple #[.agg #[.int .i64 (p), .int .i64 (q), .int .i64 (n), .bool (true)], .string (sOf (sText p q (n)))]) (by simp [results, Tryz.results9, go_sem, q0, q1, q2, q3]) rfl ?_
    exact ⟨rfl, (by have hb := HB.out; repeat' (first | (with_reducible exact Below.refl _ _) | (with_reducible assumption) | (with_reducible refine below_drewN ?_ _) | (with_reducible refine Below.drew ?_) | (with_reducible refine bl_alloc ?_ _) | (with_reducible refine bl_set ?_ ?_ _) | go_size | omega))⟩
set_option maxRecDepth 100000 in
set_option maxHeartbeats 8000000 in
theorem ls_add (p q a n : Int) (x : Bool) (s t : ByteArray) (w : World) (hf : fitB p q a = true) (hn : fitB p q n = true) (n1 : (s.toList == [99, 108, 101, 97, 114]) = false) (n2 : (s.toList == [99, 117, 116]) = false) (hw : ∀ w', Calls Tryz.prog 28 #[.string s] w' fun e w'' => e = .returned (.tuple #[.string ⟨#[97, 100, 100]⟩, .string t]) ∧ ∃ n, w'' = w'.drewN n) (hread : ∀ w', Calls Tryz.prog 29 #[.agg #[.int .i64 p, .int .i64 q], .string t] w' fun e w'' => e = .returned (.tuple #[.int .i64 n, .bool true]) ∧ Below w'.heap.size w' w'') :
    Calls Tryz.prog 9 #[.agg #[.int .i64 p, .int .i64 q, .int .i64 a, .bool x], .string s] w fun e w' => e = .returned (.tuple #[.agg #[.int .i64 (p), .int .i64 (q), .int .i64 (cutV p q (a + n)), .bool (x || !(cutV p q (a + n) == a + n))], .string (sOf (sText p q (cutV p q (a + n))))]) ∧ Below w.heap.size w w' := by
  have OP := Lib.hid (fun w' => add_sin p q a n w' hf hn)
  have CV := Lib.hid (fun w' => calv_spec p q a x w' hf)
  have HW := Lib.hid hw
  have HRD := Lib.hid hread
  clear hw hread
  have HI : Hid (InA w p q a x ((w.alloc (.cells #[.int .i64 p, .int .i64 q, .int .i64 a, .bool x] 26)).alloc (.cells #[.int .i64 0, .int .i64 0, .int .i64 0, .bool false] 26))) := Lib.hid (InA.start w p q a x)
  go_enter Tryz.func9, Tryz.ntmps9
  go_wp2_with fail
  refine (CV.out _).mono ?_
  rintro e w1 ⟨rfl, hb⟩
  have hI := HI.out.below hb
  clear HI hb
  obtain ⟨kx0, kx1, kx2, kx3⟩ := blk4c hI.c
  have HI := Lib.hid hI
  clear hI
  go_wp2_with fail
  refine (HW.out _).mono ?_
  rintro e w2 ⟨rfl, nq, rfl⟩
  have HI := Lib.hid (HI.out.drewN nq)
  go_wp2_with fail
  refine (HRD.out _).mono ?_
  rintro e w3 ⟨rfl, hb⟩
  have hI := HI.out.below hb
  clear HI hb kx0 kx1 kx2 kx3
  obtain ⟨kx0, kx1, kx2, kx3⟩ := blk4c hI.c
  obtain ⟨d0, d1, d2, d3⟩ := blk4c hI.r
  obtain ⟨f0, f1, f2, f3⟩ := blk4f hI.r
  have hl1 := hI.c.lt
  have hl2 := hI.r.lt
  have HI0 := Lib.hid hI
  have HK := Lib.hid (Blk.new w3 24 #[.int .i64 p, .int .i64 q])
  have HI := Lib.hid (hI.alloc (.cells #[.int .i64 p, .int .i64 q] 24))
  have hle := hI.bel.size
  clear hI
  go_wp2_with fail
  refine (OP.out _).mono ?_
  rintro e w4 ⟨rfl, hb⟩
  have hI := HI.out.below hb
  have hK := HK.out.below hb HK.out.lt
  clear HI HK hb kx0 kx1 kx2 kx3 d0 d1 d2 d3 f0 f1 f2 f3
  have HL : Hid (∀ F, InL w p q a x w3.heap.size p q F 0 w4) := Lib.hid (fun F => ⟨hI.bel, hI.c, hI.r, hK⟩)
  clear hI hK
  cases x
  · go_wp2_with fail
    refine wp_region_quiet2 (InL w p q a false w3.heap.size p q #[.int .i64 (p), .int .i64 (q), .int .i64 (cutV p q (a + n)), .bool (!(cutV p q (a + n) == a + n))]) (mark 12) 0 (mark_comm 12) (by kernel_rfl) (by kernel_rfl) (HL.out _).drew ?_
    repeat
      (refine walk2_step (fun K hK => ?_)
       go_simp
       first
         | (refine hK _ _ ?_; clear hK K)
         | (apply Exists.intro
            refine ⟨fun k w' hw' => ?_, hK _ _ ?_⟩
            first
              | (go_at_call 40; with_reducible refine Calls.mono (st_spec p q (cutV p q (a + n)) _) ?_; rintro e w2 ⟨rfl, hb2⟩; exact ⟨rfl, (hw'.below hb2).on (by decide)⟩)
              | (obtain ⟨c0, c1, c2, c3⟩ := blk4c hw'.c; obtain ⟨b0, b1, -, -, -⟩ := blk2 hw'.kd; go_simp; exact ⟨hw'.on (by decide), rfl⟩)
            clear hK K)
         | (refine ⟨⟨undef, fun k w' hw' => ?_⟩, hK _ _ ?_⟩
            (obtain ⟨c0, c1, c2, c3⟩ := blk4k hw'.r; obtain ⟨f0, f1, f2, f3⟩ := blk4f hw'.r; go_simp; exact hw'.put.here)
            clear hK K))
    refine walk2_nil ?_
    intro w9 hw9
    have BK : Blk w9 (w.heap.size + 1) 26 #[.int .i64 (p), .int .i64 (q), .int .i64 (cutV p q (a + n)), .bool (!(cutV p q (a + n) == a + n))] := hw9.r
    obtain ⟨q0, q1, q2, q3⟩ := blk4c BK
    have HB := Lib.hid hw9.bel
    clear hw9
    go_wp2_with fail
    refine bodyPost_ret (v := .tuple #[.agg #[.int .i64 (p), .int .i64 (q), .int .i64 (cutV p q (a + n)), .bool (!(cutV p q (a + n) == a + n))], .string (sOf (sText p q (cutV p q (a + n))))]) (by simp [results, Tryz.results9, go_sem, q0, q1, q2, q3]) rfl ?_
    exact ⟨rfl, (by have hb := HB.out; repeat' (first | (with_reducible exact Below.refl _ _) | (with_reducible assumption) | (with_reducible refine below_drewN ?_ _) | (with_reducible refine Below.drew ?_) | (with_reducible refine bl_alloc ?_ _) | (with_reducible refine bl_set ?_ ?_ _) | go_size | omega))⟩
  · go_wp2_with fail
    refine wp_region_quiet2 (InL w p q a true w3.heap.size p q #[.int .i64 (p), .int .i64 (q), .int .i64 (cutV p q (a + n)), .bool (true)]) (mark 12) 0 (mark_comm 12) (by kernel_rfl) (by kernel_rfl) (HL.out _).drew ?_
    repeat
      (refine walk2_step (fun K hK => ?_)
       go_simp
       first
         | (refine hK _ _ ?_; clear hK K)
         | (apply Exists.intro
            refine ⟨fun k w' hw' => ?_, hK _ _ ?_⟩
            first
              | (go_at_call 40; with_reducible refine Calls.mono (st_spec p q (cutV p q (a + n)) _) ?_; rintro e w2 ⟨rfl, hb2⟩; exact ⟨rfl, (hw'.below hb2).on (by decide)⟩)
              | (obtain ⟨c0, c1, c2, c3⟩ := blk4c hw'.c; obtain ⟨b0, b1, -, -, -⟩ := blk2 hw'.kd; go_simp; exact ⟨hw'.on (by decide), rfl⟩)
            clear hK K)
         | (refine ⟨⟨undef, fun k w' hw' => ?_⟩, hK _ _ ?_⟩
            (obtain ⟨c0, c1, c2, c3⟩ := blk4k hw'.r; obtain ⟨f0, f1, f2, f3⟩ := blk4f hw'.r; go_simp; exact hw'.put.here)
            clear hK K))
    refine walk2_nil ?_
    intro w9 hw9
    have BK : Blk w9 (w.heap.size + 1) 26 #[.int .i64 (p), .int .i64 (q), .int .i64 (cutV p q (a + n)), .bool (true)] := hw9.r
    obtain ⟨q0, q1, q2, q3⟩ := blk4c BK
    have HB := Lib.hid hw9.bel
    clear hw9
    go_wp2_with fail
    refine bodyPost_ret (v := .tuple #[.agg #[.int .i64 (p), .int .i64 (q), .int .i64 (cutV p q (a + n)), .bool (true)], .string (sOf (sText p q (cutV p q (a + n))))]) (by simp [results, Tryz.results9, go_sem, q0, q1, q2, q3]) rfl ?_
    exact ⟨rfl, (by have hb := HB.out; repeat' (first | (with_reducible exact Below.refl _ _) | (with_reducible assumption) | (with_reducible refine below_drewN ?_ _) | (with_reducible refine Below.drew ?_) | (with_reducible refine bl_alloc ?_ _) | (with_reducible refine bl_set ?_ ?_ _) | go_size | omega))⟩
end Go.Proofs.YtidnnnjjpjadlaaGreatDoor
