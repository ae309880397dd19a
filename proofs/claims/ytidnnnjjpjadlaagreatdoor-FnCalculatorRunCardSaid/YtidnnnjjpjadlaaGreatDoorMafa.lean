/- afterWord: power, whole. No condition: contracts for the walks of the laws. -/
import Derived.Test.YtidnnnjjpjadlaaGreatDoorMpwb
import Derived.Test.YtidnnnjjpjadlaaGreatDoorRs
import Derived.Maps.OwnSet
import Derived.StringKeys
import Derived.Test.YtidnnnjjpjadlaaGreatDoorMq
namespace Go.Proofs.YtidnnnjjpjadlaaGreatDoor
open Go.ChangeShapes Go.WideShapes Go.ChangeAt Go.RowKit

theorem blk4c {w : World} {g : Nat} {t : TypeId} {x y z u : Value} (h : Blk w g t #[x, y, z, u]) :
    w.cell? ⟨g, 0, none⟩ = some x ∧ w.cell? ⟨g, 1, none⟩ = some y ∧ w.cell? ⟨g, 2, none⟩ = some z ∧ w.cell? ⟨g, 3, none⟩ = some u := ⟨h.cell 0, h.cell 1, h.cell 2, h.cell 3⟩
/-- The worlds in the midst of a method of a calculator: its box, and a block for the result. -/
structure InA (w : World) (p q a : Int) (x : Bool) (w' : World) : Prop where
  bel : Below w.heap.size w w'
  c : Blk w' w.heap.size 26 #[.int .i64 p, .int .i64 q, .int .i64 a, .bool x]
  r : Blk w' (w.heap.size + 1) 26 #[.int .i64 0, .int .i64 0, .int .i64 0, .bool false]
theorem InA.below {w w1 w2 : World} {p q a : Int} {x : Bool} (h : InA w p q a x w1) (hb : Below w1.heap.size w1 w2) : InA w p q a x w2 := ⟨bl_behind hb h.bel, h.c.below hb h.c.lt, h.r.below hb h.r.lt⟩
theorem InA.drew {w w1 : World} {p q a : Int} {x : Bool} (h : InA w p q a x w1) : InA w p q a x { w1 with drawn := w1.drawn + 1 } := ⟨h.bel.drew, h.c.drew, h.r.drew⟩
theorem InA.drewN {w w1 : World} {p q a : Int} {x : Bool} (h : InA w p q a x w1) (n : Nat) : InA w p q a x (w1.drewN n) := ⟨below_drewN h.bel n, h.c.drewN n, h.r.drewN n⟩
theorem InA.start (w : World) (p q a : Int) (x : Bool) : InA w p q a x ((w.alloc (.cells #[.int .i64 p, .int .i64 q, .int .i64 a, .bool x] 26)).alloc (.cells #[.int .i64 0, .int .i64 0, .int .i64 0, .bool false] 26)) :=
  ⟨bl_alloc (bl_alloc (Below.refl _ _) _) _, (Blk.new w 26 #[.int .i64 p, .int .i64 q, .int .i64 a, .bool x]).alloc _, Blk.newAt (by simp)⟩
theorem wh_bd {q a : Int} (h3 : 0 ≤ q) (h4 : q ≤ 16) (a1 : -268435456 ≤ a) (a2 : a ≤ 268435456) : -600000000 ≤ rnd a (2 ^ q.toNat) * 2 ^ q.toNat ∧ rnd a (2 ^ q.toNat) * 2 ^ q.toNat ≤ 600000000 ∧ -300000000 ≤ rnd a (2 ^ q.toNat) ∧ rnd a (2 ^ q.toNat) ≤ 300000000 := by
  obtain ⟨u1, u2⟩ := p2_bd16 h3 h4
  obtain ⟨e1, e2⟩ := ediv_bd (a := a) (show (0 : Int) < 2 ^ q.toNat by omega)
  have e3 := ediv_abs (a := a) (b := 2 ^ q.toNat) (M := 268435456) u1 (by omega) (by omega) (by omega)
  unfold rnd
  split
  · rw [Int.add_mul]; omega
  · omega
set_option maxRecDepth 100000 in
set_option maxHeartbeats 8000000 in
theorem aw_power (p q a : Int) (x : Bool) (w : World) (ha : fitB p q a = true) : Calls Tryz.prog 55 #[.agg #[.int .i64 p, .int .i64 q, .int .i64 a, .bool x], .string ⟨#[112, 111, 119, 101, 114]⟩] w fun e w' => e = .returned (.tuple #[.agg #[.int .i64 (p), .int .i64 (q), .int .i64 (pwN p q a), .bool (x || !(pwOk p q a))], .bool true]) ∧ Below w.heap.size w w' := by
  have HI : Hid (InA w p q a x ((w.alloc (.cells #[.int .i64 p, .int .i64 q, .int .i64 a, .bool x] 26)).alloc (.cells #[.int .i64 0, .int .i64 0, .int .i64 0, .bool false] 26))) := Lib.hid (InA.start w p q a x)
  go_enter Tryz.func55, Tryz.ntmps55
  go_wp2_with fail
  refine wp_region_quiet_tail (C := InA w p q a x) 9 (by kernel_rfl) (by kernel_rfl) HI.out.drew ?_
  simp only [List.take_succ_cons, List.take_zero, List.drop_succ_cons, List.drop_zero]
  repeat
    (refine wpQuiet_step (fun K hK => ?_)
     go_simp
     first
       | (refine hK _ ?_; clear hK K)
       | (apply Exists.intro
          refine ⟨fun w' hw' => ?_, hK _ ?_⟩
          first
            | (go_at_call 81; with_reducible refine Calls.mono (pst_impl p q a _ ha) ?_; rintro e w2 ⟨rfl, hb2⟩; exact ⟨rfl, hw'.below hb2⟩)
            | (go_at_call 59; with_reducible refine Calls.mono (show_any p q a (pwN p q a) x (pwOk p q a) _) ?_; rintro e w2 ⟨rfl, hb2⟩; exact ⟨rfl, hw'.below hb2⟩)
            | (obtain ⟨c0, c1, c2, c3⟩ := blk4c hw'.c; go_simp; rfl)
          clear hK K))
  refine wpQuiet_nil ?_
  intro w2 hw2
  obtain ⟨d0, d1, d2, d3⟩ := blk4c hw2.r
  have f0 := hw2.r.frozen 0
  have f1 := hw2.r.frozen 1
  have f2 := hw2.r.frozen 2
  have f3 := hw2.r.frozen 3
  have bk := Lib.hid ((((hw2.r.set 0 (.int .i64 p)).set 1 (.int .i64 q)).set 2 (.int .i64 (pwN p q a))).set 3 (.bool (x || !(pwOk p q a))))
  have HB := Lib.hid hw2.bel
  clear hw2
  go_wp2_with fail
  have BK : Blk _ (w.heap.size + 1) 26 #[.int .i64 (p), .int .i64 (q), .int .i64 (pwN p q a), .bool (x || !(pwOk p q a))] := bk.out
  obtain ⟨q0, q1, q2, q3⟩ := blk4c BK
  refine bodyPost_ret (v := .tuple #[.agg #[.int .i64 (p), .int .i64 (q), .int .i64 (pwN p q a), .bool (x || !(pwOk p q a))], .bool true]) (by simp [results, Tryz.results55, go_sem, q0, q1, q2, q3]) rfl ?_
  exact ⟨rfl, (by have hb := HB.out; repeat' (first | (with_reducible exact Below.refl _ _) | (with_reducible assumption) | (with_reducible refine below_drewN ?_ _) | (with_reducible refine Below.drew ?_) | (with_reducible refine bl_alloc ?_ _) | (with_reducible refine bl_set ?_ ?_ _) | go_size | omega))⟩
set_option maxRecDepth 100000 in
set_option maxHeartbeats 8000000 in
theorem aw_whole (p q a : Int) (x : Bool) (w : World) (ha : fitB p q a = true) : Calls Tryz.prog 55 #[.agg #[.int .i64 p, .int .i64 q, .int .i64 a, .bool x], .string ⟨#[119, 104, 111, 108, 101]⟩] w fun e w' => e = .returned (.tuple #[.agg #[.int .i64 (p), .int .i64 (q), .int .i64 (cutV p q (rnd a (2 ^ q.toNat) * 2 ^ q.toNat)), .bool (x || !(cutV p q (rnd a (2 ^ q.toNat) * 2 ^ q.toNat) == rnd a (2 ^ q.toNat) * 2 ^ q.toNat))], .bool true]) ∧ Below w.heap.size w w' := by
  obtain ⟨⟨h1, h2, h3, h4⟩, a1, a2⟩ := fitB_bd ha
  obtain ⟨u1, u2⟩ := p2_bd16 h3 h4
  have hwb := wh_bd (a := a) h3 h4 a1 a2
  have hw1 : IntKind.i64.wrap (rnd a (2 ^ q.toNat) * 2 ^ q.toNat) = rnd a (2 ^ q.toNat) * 2 ^ q.toNat := by rw [IntKind.wrap_i64]; omega
  have ha := Lib.hid ha
  have HI : Hid (InA w p q a x ((w.alloc (.cells #[.int .i64 p, .int .i64 q, .int .i64 a, .bool x] 26)).alloc (.cells #[.int .i64 0, .int .i64 0, .int .i64 0, .bool false] 26))) := Lib.hid (InA.start w p q a x)
  go_enter Tryz.func55, Tryz.ntmps55
  go_wp2_with fail
  refine wp_region_quiet_tail (C := InA w p q a x) 16 (by kernel_rfl) (by kernel_rfl) HI.out.drew ?_
  simp only [List.take_succ_cons, List.take_zero, List.drop_succ_cons, List.drop_zero]
  repeat
    (refine wpQuiet_step (fun K hK => ?_)
     go_simp
     first
       | (refine hK _ ?_; clear hK K)
       | (apply Exists.intro
          refine ⟨fun w' hw' => ?_, hK _ ?_⟩
          first
            | (go_at_call 83; with_reducible refine Calls.mono (wh_impl p q a _ ha.out) ?_; rintro e w2 ⟨rfl, hb2⟩; exact ⟨rfl, hw'.below hb2⟩)
            | (go_at_call 84; with_reducible refine Calls.mono (one_impl p q _ h1 h2 h3 h4) ?_; rintro e w2 ⟨rfl, hb2⟩; exact ⟨rfl, hw'.below hb2⟩)
            | (go_at_call 82; with_reducible refine Calls.mono (cut_impl p q (rnd a (2 ^ q.toNat) * 2 ^ q.toNat) _ h1 h2 h3 h4) ?_; rintro e w2 ⟨rfl, hb2⟩; exact ⟨rfl, hw'.below hb2⟩)
            | (go_at_call 59; with_reducible refine Calls.mono (show_any p q a (cutV p q (rnd a (2 ^ q.toNat) * 2 ^ q.toNat)) x (cutV p q (rnd a (2 ^ q.toNat) * 2 ^ q.toNat) == rnd a (2 ^ q.toNat) * 2 ^ q.toNat) _) ?_; rintro e w2 ⟨rfl, hb2⟩; exact ⟨rfl, hw'.below hb2⟩)
            | (obtain ⟨c0, c1, c2, c3⟩ := blk4c hw'.c; go_simp; rfl)
          clear hK K))
  refine wpQuiet_nil ?_
  intro w2 hw2
  obtain ⟨d0, d1, d2, d3⟩ := blk4c hw2.r
  have f0 := hw2.r.frozen 0
  have f1 := hw2.r.frozen 1
  have f2 := hw2.r.frozen 2
  have f3 := hw2.r.frozen 3
  have bk := Lib.hid ((((hw2.r.set 0 (.int .i64 p)).set 1 (.int .i64 q)).set 2 (.int .i64 (cutV p q (rnd a (2 ^ q.toNat) * 2 ^ q.toNat)))).set 3 (.bool (x || !(cutV p q (rnd a (2 ^ q.toNat) * 2 ^ q.toNat) == rnd a (2 ^ q.toNat) * 2 ^ q.toNat))))
  have HB := Lib.hid hw2.bel
  clear hw2
  go_wp2_with fail
  have BK : Blk _ (w.heap.size + 1) 26 #[.int .i64 (p), .int .i64 (q), .int .i64 (cutV p q (rnd a (2 ^ q.toNat) * 2 ^ q.toNat)), .bool (x || !(cutV p q (rnd a (2 ^ q.toNat) * 2 ^ q.toNat) == rnd a (2 ^ q.toNat) * 2 ^ q.toNat))] := bk.out
  obtain ⟨q0, q1, q2, q3⟩ := blk4c BK
  refine bodyPost_ret (v := .tuple #[.agg #[.int .i64 (p), .int .i64 (q), .int .i64 (cutV p q (rnd a (2 ^ q.toNat) * 2 ^ q.toNat)), .bool (x || !(cutV p q (rnd a (2 ^ q.toNat) * 2 ^ q.toNat) == rnd a (2 ^ q.toNat) * 2 ^ q.toNat))], .bool true]) (by simp [results, Tryz.results55, go_sem, q0, q1, q2, q3]) rfl ?_
  exact ⟨rfl, (by have hb := HB.out; repeat' (first | (with_reducible exact Below.refl _ _) | (with_reducible assumption) | (with_reducible refine below_drewN ?_ _) | (with_reducible refine Below.drew ?_) | (with_reducible refine bl_alloc ?_ _) | (with_reducible refine bl_set ?_ ?_ _) | go_size | omega))⟩
end Go.Proofs.YtidnnnjjpjadlaaGreatDoor

/- afterWord: sqrt, other words. No condition: contracts for the walks of the laws. -/
namespace Go.Proofs.YtidnnnjjpjadlaaGreatDoor
open Go.ChangeShapes Go.WideShapes Go.ChangeAt Go.RowKit

theorem blk4f {w : World} {g : Nat} {t : TypeId} {cs : Array Value} (h : Blk w g t cs) :
    w.frozen? ⟨g, 0, none⟩ = false ∧ w.frozen? ⟨g, 1, none⟩ = false ∧ w.frozen? ⟨g, 2, none⟩ = false ∧ w.frozen? ⟨g, 3, none⟩ = false := ⟨h.frozen 0, h.frozen 1, h.frozen 2, h.frozen 3⟩
def pickN {α : Type} (k : Nat) (x y : α) : α := if k = 0 then y else x
/-- The same worlds, with the result's block before (0) and behind (1) the store. -/
structure InB (w : World) (p q a : Int) (x : Bool) (F : Array Value) (k : Nat) (w' : World) : Prop where
  bel : Below w.heap.size w w'
  c : Blk w' w.heap.size 26 #[.int .i64 p, .int .i64 q, .int .i64 a, .bool x]
  r : Blk w' (w.heap.size + 1) 26 (pickN k F #[.int .i64 0, .int .i64 0, .int .i64 0, .bool false])
theorem InB.below {w w1 w2 : World} {p q a : Int} {x : Bool} {k : Nat} {F : Array Value} (h : InB w p q a x F k w1) (hb : Below w1.heap.size w1 w2) : InB w p q a x F k w2 := ⟨bl_behind hb h.bel, h.c.below hb h.c.lt, h.r.below hb h.r.lt⟩
theorem InB.drew {w w1 : World} {p q a : Int} {x : Bool} {k : Nat} {F : Array Value} (h : InB w p q a x F k w1) : InB w p q a x F k { w1 with drawn := w1.drawn + 1 } := ⟨h.bel.drew, h.c.drew, h.r.drew⟩
theorem InA.toB {w w1 : World} {p q a : Int} {x : Bool} {F : Array Value} (h : InA w p q a x w1) : InB w p q a x F 0 w1 := ⟨h.bel, h.c, h.r⟩
theorem blk4k {w : World} {g : Nat} {t : TypeId} {k : Nat} {a b c d x y z u : Value} (h : Blk w g t (pickN k #[a, b, c, d] #[x, y, z, u])) :
    w.cell? ⟨g, 0, none⟩ = some (pickN k a x) ∧ w.cell? ⟨g, 1, none⟩ = some (pickN k b y) ∧ w.cell? ⟨g, 2, none⟩ = some (pickN k c z) ∧ w.cell? ⟨g, 3, none⟩ = some (pickN k d u) := by
  unfold pickN at *
  split at h <;> rename_i hk <;> simp only [hk, if_true, if_false] <;> exact ⟨h.cell 0, h.cell 1, h.cell 2, h.cell 3⟩
theorem InB.put {w w1 : World} {p q a : Int} {x : Bool} {k : Nat} {P Q N X : Value} (h : InB w p q a x #[P, Q, N, X] k w1) :
    InB w p q a x #[P, Q, N, X] 1 ((((w1.setCell ⟨w.heap.size + 1, 0, none⟩ P).setCell ⟨w.heap.size + 1, 1, none⟩ Q).setCell ⟨w.heap.size + 1, 2, none⟩ N).setCell ⟨w.heap.size + 1, 3, none⟩ X) := by
  have hne : w.heap.size ≠ w.heap.size + 1 := by omega
  refine ⟨(((h.bel.setCell (p := ⟨w.heap.size + 1, 0, none⟩) (Nat.le_succ _) _).setCell (p := ⟨w.heap.size + 1, 1, none⟩) (Nat.le_succ _) _).setCell (p := ⟨w.heap.size + 1, 2, none⟩) (Nat.le_succ _) _).setCell (p := ⟨w.heap.size + 1, 3, none⟩) (Nat.le_succ _) _,
    (((h.c.far (p := ⟨w.heap.size + 1, 0, none⟩) hne _).far (p := ⟨w.heap.size + 1, 1, none⟩) hne _).far (p := ⟨w.heap.size + 1, 2, none⟩) hne _).far (p := ⟨w.heap.size + 1, 3, none⟩) hne _, ?_⟩
  have hr := h.r
  unfold pickN at hr
  split at hr
  · exact (((hr.set 0 P).set 1 Q).set 2 N).set 3 X
  · exact (((hr.set 0 P).set 1 Q).set 2 N).set 3 X
theorem InB.on {w w1 : World} {p q a : Int} {x : Bool} {k s i : Nat} {F : Array Value} (h : InB w p q a x F k w1) (hi : i ≠ s) : InB w p q a x F (mark s i k) w1 := by unfold mark; rwa [if_neg hi]
theorem InB.here {w w1 : World} {p q a : Int} {x : Bool} {k s : Nat} {F : Array Value} (h : InB w p q a x F 1 w1) : InB w p q a x F (mark s s k) w1 := by unfold mark; rwa [if_pos rfl]
attribute [local go_sem] quiet2 at2 upon2
set_option maxRecDepth 100000 in
set_option maxHeartbeats 8000000 in
theorem aw_sqrt (p q a : Int) (x : Bool) (w : World) (ha : fitB p q a = true) (h0 : 0 ≤ a) : Calls Tryz.prog 55 #[.agg #[.int .i64 p, .int .i64 q, .int .i64 a, .bool x], .string ⟨#[115, 113, 114, 116]⟩] w fun e w' => e = .returned (.tuple #[.agg #[.int .i64 (p), .int .i64 (q), .int .i64 (isq (a * 2 ^ q.toNat)), .bool (x || !true)], .bool true]) ∧ Below w.heap.size w w' := by
  have HI : Hid (InA w p q a x ((w.alloc (.cells #[.int .i64 p, .int .i64 q, .int .i64 a, .bool x] 26)).alloc (.cells #[.int .i64 0, .int .i64 0, .int .i64 0, .bool false] 26))) := Lib.hid (InA.start w p q a x)
  go_enter Tryz.func55, Tryz.ntmps55
  go_wp2_with fail
  refine wp_region_quiet2 (InB w p q a x #[.int .i64 (p), .int .i64 (q), .int .i64 (isq (a * 2 ^ q.toNat)), .bool (x || !true)]) (mark 12) 0 (mark_comm 12) (by kernel_rfl) (by kernel_rfl) HI.out.toB.drew ?_
  repeat
    (refine walk2_step (fun K hK => ?_)
     go_simp
     first
       | (refine hK _ _ ?_; clear hK K)
       | (apply Exists.intro
          refine ⟨fun k w' hw' => ?_, hK _ _ ?_⟩
          first
            | (go_at_call 80; with_reducible refine Calls.mono (sq_impl_pos p q a _ ha h0) ?_; rintro e w2 ⟨rfl, hb2⟩; exact ⟨rfl, (hw'.below hb2).on (by decide)⟩)
            | (go_at_call 59; with_reducible refine Calls.mono (show_any p q a (isq (a * 2 ^ q.toNat)) x (true) _) ?_; rintro e w2 ⟨rfl, hb2⟩; exact ⟨rfl, (hw'.below hb2).on (by decide)⟩)
            | (obtain ⟨c0, c1, c2, c3⟩ := blk4c hw'.c; go_simp; exact ⟨hw'.on (by decide), rfl⟩)
          clear hK K)
       | (refine ⟨⟨undef, fun k w' hw' => ?_⟩, hK _ _ ?_⟩
          (obtain ⟨c0, c1, c2, c3⟩ := blk4k hw'.r; obtain ⟨f0, f1, f2, f3⟩ := blk4f hw'.r; go_simp; exact hw'.put.here)
          clear hK K))
  refine walk2_nil ?_
  intro w2 hw2
  have BK : Blk w2 (w.heap.size + 1) 26 #[.int .i64 (p), .int .i64 (q), .int .i64 (isq (a * 2 ^ q.toNat)), .bool (x || !true)] := hw2.r
  obtain ⟨q0, q1, q2, q3⟩ := blk4c BK
  have HB := Lib.hid hw2.bel
  clear hw2
  go_wp2_with fail
  refine bodyPost_ret (v := .tuple #[.agg #[.int .i64 (p), .int .i64 (q), .int .i64 (isq (a * 2 ^ q.toNat)), .bool (x || !true)], .bool true]) (by simp [results, Tryz.results55, go_sem, q0, q1, q2, q3]) rfl ?_
  exact ⟨rfl, (by have hb := HB.out; repeat' (first | (with_reducible exact Below.refl _ _) | (with_reducible assumption) | (with_reducible refine below_drewN ?_ _) | (with_reducible refine Below.drew ?_) | (with_reducible refine bl_alloc ?_ _) | (with_reducible refine bl_set ?_ ?_ _) | go_size | omega))⟩
end Go.Proofs.YtidnnnjjpjadlaaGreatDoor

/- afterWord: the root of a negative number, other words. No condition: contracts for the walks of the laws. -/
namespace Go.Proofs.YtidnnnjjpjadlaaGreatDoor
open Go.ChangeShapes Go.WideShapes Go.ChangeAt Go.RowKit

attribute [local go_sem] quiet2 at2 upon2
set_option maxRecDepth 100000 in
set_option maxHeartbeats 8000000 in
theorem aw_neg (p q a : Int) (x : Bool) (w : World) (ha : fitB p q a = true) (h0 : a < 0) : Calls Tryz.prog 55 #[.agg #[.int .i64 p, .int .i64 q, .int .i64 a, .bool x], .string ⟨#[115, 113, 114, 116]⟩] w fun e w' => (∃ p' q' a' x', e = .returned (.tuple #[.agg #[.int .i64 (p'), .int .i64 (q'), .int .i64 (a'), .bool (x')], .bool false])) ∧ Below w.heap.size w w' := by
  have HI : Hid (InA w p q a x ((w.alloc (.cells #[.int .i64 p, .int .i64 q, .int .i64 a, .bool x] 26)).alloc (.cells #[.int .i64 0, .int .i64 0, .int .i64 0, .bool false] 26))) := Lib.hid (InA.start w p q a x)
  go_enter Tryz.func55, Tryz.ntmps55
  go_wp2_with fail
  refine wp_region_quiet2 (InB w p q a x #[.int .i64 (p), .int .i64 (q), .int .i64 (0), .bool (x || !false)]) (mark 12) 0 (mark_comm 12) (by kernel_rfl) (by kernel_rfl) HI.out.toB.drew ?_
  repeat
    (refine walk2_step (fun K hK => ?_)
     go_simp
     first
       | (refine hK _ _ ?_; clear hK K)
       | (apply Exists.intro
          refine ⟨fun k w' hw' => ?_, hK _ _ ?_⟩
          first
            | (go_at_call 80; with_reducible refine Calls.mono (sq_impl_neg p q a _ ha h0) ?_; rintro e w2 ⟨rfl, hb2⟩; exact ⟨rfl, (hw'.below hb2).on (by decide)⟩)
            | (go_at_call 59; with_reducible refine Calls.mono (show_any p q a (0) x (false) _) ?_; rintro e w2 ⟨rfl, hb2⟩; exact ⟨rfl, (hw'.below hb2).on (by decide)⟩)
            | (obtain ⟨c0, c1, c2, c3⟩ := blk4c hw'.c; go_simp; exact ⟨hw'.on (by decide), rfl⟩)
          clear hK K)
       | (refine ⟨⟨undef, fun k w' hw' => ?_⟩, hK _ _ ?_⟩
          (obtain ⟨c0, c1, c2, c3⟩ := blk4k hw'.r; obtain ⟨f0, f1, f2, f3⟩ := blk4f hw'.r; go_simp; exact hw'.put.here)
          clear hK K))
  refine walk2_nil ?_
  intro w2 hw2
  have BK : Blk w2 (w.heap.size + 1) 26 #[.int .i64 (p), .int .i64 (q), .int .i64 (0), .bool (x || !false)] := hw2.r
  obtain ⟨q0, q1, q2, q3⟩ := blk4c BK
  have HB := Lib.hid hw2.bel
  clear hw2
  go_wp2_with fail
  refine bodyPost_ret (v := .tuple #[.agg #[.int .i64 (p), .int .i64 (q), .int .i64 (0), .bool (x || !false)], .bool false]) (by simp [results, Tryz.results55, go_sem, q0, q1, q2, q3, h0]) rfl ?_
  exact ⟨⟨_, _, _, _, rfl⟩, (by have hb := HB.out; repeat' (first | (with_reducible exact Below.refl _ _) | (with_reducible assumption) | (with_reducible refine below_drewN ?_ _) | (with_reducible refine Below.drew ?_) | (with_reducible refine bl_alloc ?_ _) | (with_reducible refine bl_set ?_ ?_ _) | go_size | omega))⟩
set_option maxRecDepth 100000 in
set_option maxHeartbeats 8000000 in
theorem aw_other (p q a : Int) (x : Bool) (u : ByteArray) (w : World) (n1 : (u.toList == [115, 113, 114, 116]) = false) (n2 : (u.toList == [112, 111, 119, 101, 114]) = false) (n3 : (u.toList == [119, 104, 111, 108, 101]) = false) : Calls Tryz.prog 55 #[.agg #[.int .i64 p, .int .i64 q, .int .i64 a, .bool x], .string u] w fun e w' => (∃ p' q' a' x', e = .returned (.tuple #[.agg #[.int .i64 (p'), .int .i64 (q'), .int .i64 (a'), .bool (x')], .bool false])) ∧ Below w.heap.size w w' := by
  have HI : Hid (InA w p q a x ((w.alloc (.cells #[.int .i64 p, .int .i64 q, .int .i64 a, .bool x] 26)).alloc (.cells #[.int .i64 0, .int .i64 0, .int .i64 0, .bool false] 26))) := Lib.hid (InA.start w p q a x)
  go_enter Tryz.func55, Tryz.ntmps55
  go_wp2_with fail
  refine bodyPost_ret (v := .tuple #[.agg #[.int .i64 p, .int .i64 q, .int .i64 a, .bool x], .bool false]) (by simp [results, Tryz.results55, go_sem]) rfl ?_
  exact ⟨⟨_, _, _, _, rfl⟩, (by repeat' (first | (with_reducible exact Below.refl _ _) | (with_reducible assumption) | (with_reducible refine below_drewN ?_ _) | (with_reducible refine Below.drew ?_) | (with_reducible refine bl_alloc ?_ _) | (with_reducible refine bl_set ?_ ?_ _) | go_size | omega))⟩
end Go.Proofs.YtidnnnjjpjadlaaGreatDoor
