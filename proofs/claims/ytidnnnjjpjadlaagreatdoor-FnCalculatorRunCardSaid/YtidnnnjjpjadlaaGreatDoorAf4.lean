/- after: sub, mul, div. No condition: contracts for the walks of the laws. -/
import Derived.Test.YtidnnnjjpjadlaaGreatDoorAf3
namespace Go.Proofs.YtidnnnjjpjadlaaGreatDoor
open Go.ChangeShapes Go.WideShapes Go.ChangeAt Go.RowKit

set_option maxRecDepth 100000 in
set_option maxHeartbeats 8000000 in
theorem af_sub (p q a n : Int) (x : Bool) (ha : fitB p q a = true) (hn : fitB p q n = true) (s t : ByteArray) (m : Int) (w : World) (hT : HT w) (hm : (w.cell? ⟨0, 0, none⟩ = some (.int .i64 m))) (hcut : ∀ w', (w'.cell? ⟨0, 0, none⟩ = some (.int .i64 m)) → Calls Tryz.prog 54 #[.string s, .string ⟨#[32]⟩] w' fun e w'' => e = .returned (.tuple #[.string ⟨#[115, 117, 98]⟩, .string t, .bool true]) ∧ ∃ n, w'' = w'.drewN n) (hread : ∀ w', HT w' → (w'.cell? ⟨0, 0, none⟩ = some (.int .i64 m)) → Calls Tryz.prog 58 #[.agg #[.int .i64 p, .int .i64 q], .string t] w' fun e w'' => e = .returned (.tuple #[.int .i64 n, .bool true]) ∧ Below w'.heap.size w' w'') :
    Calls Tryz.prog 27 #[.agg #[.int .i64 p, .int .i64 q, .int .i64 a, .bool x], .string s] w fun e w' => e = .returned (.tuple #[.agg #[.int .i64 (p), .int .i64 (q), .int .i64 (cutV p q (a - n)), .bool (x || !(cutV p q (a - n) == a - n))], .bool true]) ∧ Below w.heap.size w w' := by
  have hmm := @run_makeMap Tryz.prog
  have HM := Lib.hid hm
  have HTB := Lib.hid hT
  have HCUT := Lib.hid hcut
  have HRD := Lib.hid hread
  clear hm hT hcut hread
  have HI : Hid (InA w p q a x ((w.alloc (.cells #[.int .i64 p, .int .i64 q, .int .i64 a, .bool x] 26)).alloc (.cells #[.int .i64 0, .int .i64 0, .int .i64 0, .bool false] 26))) := Lib.hid (InA.start w p q a x)
  go_enter Tryz.func27, Tryz.ntmps27
  go_wp2_with fail
  refine (HCUT.out _ (cell0_below HM.out HI.out.bel)).mono ?_
  rintro e w1 ⟨rfl, nq, rfl⟩
  have HI := Lib.hid (HI.out.drewN nq)
  generalize hW : (((w.alloc (.cells #[.int .i64 p, .int .i64 q, .int .i64 a, .bool x] 26)).alloc (.cells #[.int .i64 0, .int .i64 0, .int .i64 0, .bool false] 26)).drewN nq) = W at *
  have o0 : (W.alloc (.map #[] 0)).ownsMap Tryz.prog 9 (plainElem (H := Unit) Tryz.prog 3) W.heap.size 0 (.map []) := World.ownsMap_made _ _ _ _
  obtain ⟨W1, r1, o1, g1⟩ := o0.update (t := 78) (e := 3) (key := .string ⟨#[115, 101, 116]⟩) (val := .int .i64 0) (Go.Maps.string_keyed Tryz.underlying9) Tryz.underlying78 (by unfold maxLen; omega) (Go.WideMaps.keyOf_string_mk Tryz.underlying9 (by decide)) (plainElem_int Tryz.underlying3 (by decide))
  obtain ⟨W2, r2, o2, g2⟩ := o1.update (t := 78) (e := 3) (key := .string ⟨#[97, 100, 100]⟩) (val := .int .i64 1) (Go.Maps.string_keyed Tryz.underlying9) Tryz.underlying78 (by unfold maxLen; omega) (Go.WideMaps.keyOf_string_mk Tryz.underlying9 (by decide)) (plainElem_int Tryz.underlying3 (by decide))
  obtain ⟨W3, r3, o3, g3⟩ := o2.update (t := 78) (e := 3) (key := .string ⟨#[115, 117, 98]⟩) (val := .int .i64 2) (Go.Maps.string_keyed Tryz.underlying9) Tryz.underlying78 (by unfold maxLen; omega) (Go.WideMaps.keyOf_string_mk Tryz.underlying9 (by decide)) (plainElem_int Tryz.underlying3 (by decide))
  obtain ⟨W4, r4, o4, g4⟩ := o3.update (t := 78) (e := 3) (key := .string ⟨#[109, 117, 108]⟩) (val := .int .i64 3) (Go.Maps.string_keyed Tryz.underlying9) Tryz.underlying78 (by unfold maxLen; omega) (Go.WideMaps.keyOf_string_mk Tryz.underlying9 (by decide)) (plainElem_int Tryz.underlying3 (by decide))
  obtain ⟨W5, r5, o5, g5⟩ := o4.update (t := 78) (e := 3) (key := .string ⟨#[100, 105, 118]⟩) (val := .int .i64 4) (Go.Maps.string_keyed Tryz.underlying9) Tryz.underlying78 (by unfold maxLen; omega) (Go.WideMaps.keyOf_string_mk Tryz.underlying9 (by decide)) (plainElem_int Tryz.underlying3 (by decide))
  have o6 : W5.ownsMap Tryz.prog 9 (plainElem (H := Unit) Tryz.prog 3) W.heap.size 5 cmdD := o5
  obtain ⟨vv, pp, rl, hat⟩ := o6.look_ok (t := 78) (e := 3) (key := .string ⟨#[115, 117, 98]⟩) (kl := .string [115, 117, 98]) (Go.Maps.string_keyed Tryz.underlying9) Tryz.underlying78 (zeroI _) (plainElem_int Tryz.underlying3 (by decide)) (Go.WideMaps.keyOf_string_mk Tryz.underlying9 (by decide))
  rw [has_sub] at rl
  obtain ⟨c, rfl, hc, -⟩ := plainElem_int_inv Tryz.underlying3 hat
  have hc := look_sub (congrArg Prod.fst hc)
  subst hc
  have gg := grownBy_trans (grownBy_trans (grownBy_trans (grownBy_trans g1 g2) g3) g4) g5
  have hI := (HI.out.alloc (.map #[] 0)).grown gg (by intro e; injection e with e; have := HI.out.r.lt; omega) (by intro e; injection e with e; have := HI.out.r.lt; omega) (fun k hk => by injection hk with hk; have := HI.out.bel.size; omega)
  obtain ⟨kx0, kx1, kx2, kx3⟩ := blk4c hI.c
  have HI := Lib.hid hI
  clear hI hW o0 o1 o2 o3 o4 o5 o6 g1 g2 g3 g4 g5 gg hat
  go_wp2_with fail
  refine (HRD.out _ (HTB.out.below HI.out.bel) (cell0_below HM.out HI.out.bel)).mono ?_
  rintro e w6 ⟨rfl, hb⟩
  have hI := HI.out.below hb
  clear kx0 kx1 kx2 kx3 hb HI r1 r2 r3 r4 r5 rl
  obtain ⟨kx0, kx1, kx2, kx3⟩ := blk4c hI.c
  obtain ⟨kz0, kz1, kz2, kz3⟩ := blk4c hI.r
  obtain ⟨fz0, fz1, fz2, fz3⟩ := blk4f hI.r
  have HI := Lib.hid hI
  clear hI
  go_wp2_with fail
  refine wp_region_quiet_tail (C := InA w p q a x) 10 (by kernel_rfl) (by kernel_rfl) HI.out.drew ?_
  simp only [List.take_succ_cons, List.take_zero, List.drop_succ_cons, List.drop_zero]
  repeat
    (refine wpQuiet_step (fun K hK => ?_)
     go_simp
     first
       | (refine hK _ ?_; clear hK K)
       | (apply Exists.intro
          refine ⟨fun w' hw' => ?_, hK _ ?_⟩
          first
            | (go_at_call 61; with_reducible refine Calls.mono (sub_impl p q a n _ ha hn) ?_; rintro e w2 ⟨rfl, hb2⟩; exact ⟨rfl, hw'.below hb2⟩)
            | (go_at_call 59; with_reducible refine Calls.mono (show_any p q a (cutV p q (a - n)) x (cutV p q (a - n) == a - n) _) ?_; rintro e w2 ⟨rfl, hb2⟩; exact ⟨rfl, hw'.below hb2⟩)
            | (obtain ⟨c0, c1, c2, c3⟩ := blk4c hw'.c; go_simp; rfl)
          clear hK K))
  refine wpQuiet_nil ?_
  intro w2 hw2
  obtain ⟨d0, d1, d2, d3⟩ := blk4c hw2.r
  have f0 := hw2.r.frozen 0
  have f1 := hw2.r.frozen 1
  have f2 := hw2.r.frozen 2
  have f3 := hw2.r.frozen 3
  have bk := Lib.hid ((((hw2.r.set 0 (.int .i64 p)).set 1 (.int .i64 q)).set 2 (.int .i64 (cutV p q (a - n)))).set 3 (.bool (x || !(cutV p q (a - n) == a - n))))
  have HB := Lib.hid hw2.bel
  clear hw2
  go_wp2_with fail
  have BK : Blk _ (w.heap.size + 1) 26 #[.int .i64 (p), .int .i64 (q), .int .i64 (cutV p q (a - n)), .bool (x || !(cutV p q (a - n) == a - n))] := bk.out
  obtain ⟨q0, q1, q2, q3⟩ := blk4c BK
  refine bodyPost_ret (v := .tuple #[.agg #[.int .i64 (p), .int .i64 (q), .int .i64 (cutV p q (a - n)), .bool (x || !(cutV p q (a - n) == a - n))], .bool true]) (by simp [results, Tryz.results27, go_sem, q0, q1, q2, q3]) rfl ?_
  exact ⟨rfl, (by have hb := HB.out; repeat' (first | (with_reducible exact Below.refl _ _) | (with_reducible assumption) | (with_reducible refine below_drewN ?_ _) | (with_reducible refine Below.drew ?_) | (with_reducible refine bl_alloc ?_ _) | (with_reducible refine bl_set ?_ ?_ _) | go_size | omega))⟩
set_option maxRecDepth 100000 in
set_option maxHeartbeats 8000000 in
theorem af_mul (p q a n : Int) (x : Bool) (ha : fitB p q a = true) (hn : fitB p q n = true) (s t : ByteArray) (m : Int) (w : World) (hT : HT w) (hm : (w.cell? ⟨0, 0, none⟩ = some (.int .i64 m))) (hcut : ∀ w', (w'.cell? ⟨0, 0, none⟩ = some (.int .i64 m)) → Calls Tryz.prog 54 #[.string s, .string ⟨#[32]⟩] w' fun e w'' => e = .returned (.tuple #[.string ⟨#[109, 117, 108]⟩, .string t, .bool true]) ∧ ∃ n, w'' = w'.drewN n) (hread : ∀ w', HT w' → (w'.cell? ⟨0, 0, none⟩ = some (.int .i64 m)) → Calls Tryz.prog 58 #[.agg #[.int .i64 p, .int .i64 q], .string t] w' fun e w'' => e = .returned (.tuple #[.int .i64 n, .bool true]) ∧ Below w'.heap.size w' w'') :
    Calls Tryz.prog 27 #[.agg #[.int .i64 p, .int .i64 q, .int .i64 a, .bool x], .string s] w fun e w' => e = .returned (.tuple #[.agg #[.int .i64 (p), .int .i64 (q), .int .i64 (cutV p q (rnd (a * n) (2 ^ q.toNat))), .bool (x || !(cutV p q (rnd (a * n) (2 ^ q.toNat)) == rnd (a * n) (2 ^ q.toNat)))], .bool true]) ∧ Below w.heap.size w w' := by
  have hmm := @run_makeMap Tryz.prog
  have HM := Lib.hid hm
  have HTB := Lib.hid hT
  have HCUT := Lib.hid hcut
  have HRD := Lib.hid hread
  clear hm hT hcut hread
  have HI : Hid (InA w p q a x ((w.alloc (.cells #[.int .i64 p, .int .i64 q, .int .i64 a, .bool x] 26)).alloc (.cells #[.int .i64 0, .int .i64 0, .int .i64 0, .bool false] 26))) := Lib.hid (InA.start w p q a x)
  go_enter Tryz.func27, Tryz.ntmps27
  go_wp2_with fail
  refine (HCUT.out _ (cell0_below HM.out HI.out.bel)).mono ?_
  rintro e w1 ⟨rfl, nq, rfl⟩
  have HI := Lib.hid (HI.out.drewN nq)
  generalize hW : (((w.alloc (.cells #[.int .i64 p, .int .i64 q, .int .i64 a, .bool x] 26)).alloc (.cells #[.int .i64 0, .int .i64 0, .int .i64 0, .bool false] 26)).drewN nq) = W at *
  have o0 : (W.alloc (.map #[] 0)).ownsMap Tryz.prog 9 (plainElem (H := Unit) Tryz.prog 3) W.heap.size 0 (.map []) := World.ownsMap_made _ _ _ _
  obtain ⟨W1, r1, o1, g1⟩ := o0.update (t := 78) (e := 3) (key := .string ⟨#[115, 101, 116]⟩) (val := .int .i64 0) (Go.Maps.string_keyed Tryz.underlying9) Tryz.underlying78 (by unfold maxLen; omega) (Go.WideMaps.keyOf_string_mk Tryz.underlying9 (by decide)) (plainElem_int Tryz.underlying3 (by decide))
  obtain ⟨W2, r2, o2, g2⟩ := o1.update (t := 78) (e := 3) (key := .string ⟨#[97, 100, 100]⟩) (val := .int .i64 1) (Go.Maps.string_keyed Tryz.underlying9) Tryz.underlying78 (by unfold maxLen; omega) (Go.WideMaps.keyOf_string_mk Tryz.underlying9 (by decide)) (plainElem_int Tryz.underlying3 (by decide))
  obtain ⟨W3, r3, o3, g3⟩ := o2.update (t := 78) (e := 3) (key := .string ⟨#[115, 117, 98]⟩) (val := .int .i64 2) (Go.Maps.string_keyed Tryz.underlying9) Tryz.underlying78 (by unfold maxLen; omega) (Go.WideMaps.keyOf_string_mk Tryz.underlying9 (by decide)) (plainElem_int Tryz.underlying3 (by decide))
  obtain ⟨W4, r4, o4, g4⟩ := o3.update (t := 78) (e := 3) (key := .string ⟨#[109, 117, 108]⟩) (val := .int .i64 3) (Go.Maps.string_keyed Tryz.underlying9) Tryz.underlying78 (by unfold maxLen; omega) (Go.WideMaps.keyOf_string_mk Tryz.underlying9 (by decide)) (plainElem_int Tryz.underlying3 (by decide))
  obtain ⟨W5, r5, o5, g5⟩ := o4.update (t := 78) (e := 3) (key := .string ⟨#[100, 105, 118]⟩) (val := .int .i64 4) (Go.Maps.string_keyed Tryz.underlying9) Tryz.underlying78 (by unfold maxLen; omega) (Go.WideMaps.keyOf_string_mk Tryz.underlying9 (by decide)) (plainElem_int Tryz.underlying3 (by decide))
  have o6 : W5.ownsMap Tryz.prog 9 (plainElem (H := Unit) Tryz.prog 3) W.heap.size 5 cmdD := o5
  obtain ⟨vv, pp, rl, hat⟩ := o6.look_ok (t := 78) (e := 3) (key := .string ⟨#[109, 117, 108]⟩) (kl := .string [109, 117, 108]) (Go.Maps.string_keyed Tryz.underlying9) Tryz.underlying78 (zeroI _) (plainElem_int Tryz.underlying3 (by decide)) (Go.WideMaps.keyOf_string_mk Tryz.underlying9 (by decide))
  rw [has_mul] at rl
  obtain ⟨c, rfl, hc, -⟩ := plainElem_int_inv Tryz.underlying3 hat
  have hc := look_mul (congrArg Prod.fst hc)
  subst hc
  have gg := grownBy_trans (grownBy_trans (grownBy_trans (grownBy_trans g1 g2) g3) g4) g5
  have hI := (HI.out.alloc (.map #[] 0)).grown gg (by intro e; injection e with e; have := HI.out.r.lt; omega) (by intro e; injection e with e; have := HI.out.r.lt; omega) (fun k hk => by injection hk with hk; have := HI.out.bel.size; omega)
  obtain ⟨kx0, kx1, kx2, kx3⟩ := blk4c hI.c
  have HI := Lib.hid hI
  clear hI hW o0 o1 o2 o3 o4 o5 o6 g1 g2 g3 g4 g5 gg hat
  go_wp2_with fail
  refine (HRD.out _ (HTB.out.below HI.out.bel) (cell0_below HM.out HI.out.bel)).mono ?_
  rintro e w6 ⟨rfl, hb⟩
  have hI := HI.out.below hb
  clear kx0 kx1 kx2 kx3 hb HI r1 r2 r3 r4 r5 rl
  obtain ⟨kx0, kx1, kx2, kx3⟩ := blk4c hI.c
  obtain ⟨kz0, kz1, kz2, kz3⟩ := blk4c hI.r
  obtain ⟨fz0, fz1, fz2, fz3⟩ := blk4f hI.r
  have HI := Lib.hid hI
  clear hI
  go_wp2_with fail
  refine wp_region_quiet_tail (C := InA w p q a x) 10 (by kernel_rfl) (by kernel_rfl) HI.out.drew ?_
  simp only [List.take_succ_cons, List.take_zero, List.drop_succ_cons, List.drop_zero]
  repeat
    (refine wpQuiet_step (fun K hK => ?_)
     go_simp
     first
       | (refine hK _ ?_; clear hK K)
       | (apply Exists.intro
          refine ⟨fun w' hw' => ?_, hK _ ?_⟩
          first
            | (go_at_call 62; with_reducible refine Calls.mono (mul_impl p q a n _ ha hn) ?_; rintro e w2 ⟨rfl, hb2⟩; exact ⟨rfl, hw'.below hb2⟩)
            | (go_at_call 59; with_reducible refine Calls.mono (show_any p q a (cutV p q (rnd (a * n) (2 ^ q.toNat))) x (cutV p q (rnd (a * n) (2 ^ q.toNat)) == rnd (a * n) (2 ^ q.toNat)) _) ?_; rintro e w2 ⟨rfl, hb2⟩; exact ⟨rfl, hw'.below hb2⟩)
            | (obtain ⟨c0, c1, c2, c3⟩ := blk4c hw'.c; go_simp; rfl)
          clear hK K))
  refine wpQuiet_nil ?_
  intro w2 hw2
  obtain ⟨d0, d1, d2, d3⟩ := blk4c hw2.r
  have f0 := hw2.r.frozen 0
  have f1 := hw2.r.frozen 1
  have f2 := hw2.r.frozen 2
  have f3 := hw2.r.frozen 3
  have bk := Lib.hid ((((hw2.r.set 0 (.int .i64 p)).set 1 (.int .i64 q)).set 2 (.int .i64 (cutV p q (rnd (a * n) (2 ^ q.toNat))))).set 3 (.bool (x || !(cutV p q (rnd (a * n) (2 ^ q.toNat)) == rnd (a * n) (2 ^ q.toNat)))))
  have HB := Lib.hid hw2.bel
  clear hw2
  go_wp2_with fail
  have BK : Blk _ (w.heap.size + 1) 26 #[.int .i64 (p), .int .i64 (q), .int .i64 (cutV p q (rnd (a * n) (2 ^ q.toNat))), .bool (x || !(cutV p q (rnd (a * n) (2 ^ q.toNat)) == rnd (a * n) (2 ^ q.toNat)))] := bk.out
  obtain ⟨q0, q1, q2, q3⟩ := blk4c BK
  refine bodyPost_ret (v := .tuple #[.agg #[.int .i64 (p), .int .i64 (q), .int .i64 (cutV p q (rnd (a * n) (2 ^ q.toNat))), .bool (x || !(cutV p q (rnd (a * n) (2 ^ q.toNat)) == rnd (a * n) (2 ^ q.toNat)))], .bool true]) (by simp [results, Tryz.results27, go_sem, q0, q1, q2, q3]) rfl ?_
  exact ⟨rfl, (by have hb := HB.out; repeat' (first | (with_reducible exact Below.refl _ _) | (with_reducible assumption) | (with_reducible refine below_drewN ?_ _) | (with_reducible refine Below.drew ?_) | (with_reducible refine bl_alloc ?_ _) | (with_reducible refine bl_set ?_ ?_ _) | go_size | omega))⟩
set_option maxRecDepth 100000 in
set_option maxHeartbeats 8000000 in
theorem af_div (p q a n : Int) (x : Bool) (ha : fitB p q a = true) (hn : fitB p q n = true) (h0 : n ≠ 0) (s t : ByteArray) (m : Int) (w : World) (hT : HT w) (hm : (w.cell? ⟨0, 0, none⟩ = some (.int .i64 m))) (hcut : ∀ w', (w'.cell? ⟨0, 0, none⟩ = some (.int .i64 m)) → Calls Tryz.prog 54 #[.string s, .string ⟨#[32]⟩] w' fun e w'' => e = .returned (.tuple #[.string ⟨#[100, 105, 118]⟩, .string t, .bool true]) ∧ ∃ n, w'' = w'.drewN n) (hread : ∀ w', HT w' → (w'.cell? ⟨0, 0, none⟩ = some (.int .i64 m)) → Calls Tryz.prog 58 #[.agg #[.int .i64 p, .int .i64 q], .string t] w' fun e w'' => e = .returned (.tuple #[.int .i64 n, .bool true]) ∧ Below w'.heap.size w' w'') :
    Calls Tryz.prog 27 #[.agg #[.int .i64 p, .int .i64 q, .int .i64 a, .bool x], .string s] w fun e w' => e = .returned (.tuple #[.agg #[.int .i64 (p), .int .i64 (q), .int .i64 (cutV p q (rnd (dvX q a n) (dvY n))), .bool (x || !(cutV p q (rnd (dvX q a n) (dvY n)) == rnd (dvX q a n) (dvY n)))], .bool true]) ∧ Below w.heap.size w w' := by
  have h0b : (n == 0) = false := beq_eq_false_iff_ne.2 h0
  have hmm := @run_makeMap Tryz.prog
  have HM := Lib.hid hm
  have HTB := Lib.hid hT
  have HCUT := Lib.hid hcut
  have HRD := Lib.hid hread
  clear hm hT hcut hread
  have HI : Hid (InA w p q a x ((w.alloc (.cells #[.int .i64 p, .int .i64 q, .int .i64 a, .bool x] 26)).alloc (.cells #[.int .i64 0, .int .i64 0, .int .i64 0, .bool false] 26))) := Lib.hid (InA.start w p q a x)
  go_enter Tryz.func27, Tryz.ntmps27
  go_wp2_with fail
  refine (HCUT.out _ (cell0_below HM.out HI.out.bel)).mono ?_
  rintro e w1 ⟨rfl, nq, rfl⟩
  have HI := Lib.hid (HI.out.drewN nq)
  generalize hW : (((w.alloc (.cells #[.int .i64 p, .int .i64 q, .int .i64 a, .bool x] 26)).alloc (.cells #[.int .i64 0, .int .i64 0, .int .i64 0, .bool false] 26)).drewN nq) = W at *
  have o0 : (W.alloc (.map #[] 0)).ownsMap Tryz.prog 9 (plainElem (H := Unit) Tryz.prog 3) W.heap.size 0 (.map []) := World.ownsMap_made _ _ _ _
  obtain ⟨W1, r1, o1, g1⟩ := o0.update (t := 78) (e := 3) (key := .string ⟨#[115, 101, 116]⟩) (val := .int .i64 0) (Go.Maps.string_keyed Tryz.underlying9) Tryz.underlying78 (by unfold maxLen; omega) (Go.WideMaps.keyOf_string_mk Tryz.underlying9 (by decide)) (plainElem_int Tryz.underlying3 (by decide))
  obtain ⟨W2, r2, o2, g2⟩ := o1.update (t := 78) (e := 3) (key := .string ⟨#[97, 100, 100]⟩) (val := .int .i64 1) (Go.Maps.string_keyed Tryz.underlying9) Tryz.underlying78 (by unfold maxLen; omega) (Go.WideMaps.keyOf_string_mk Tryz.underlying9 (by decide)) (plainElem_int Tryz.underlying3 (by decide))
  obtain ⟨W3, r3, o3, g3⟩ := o2.update (t := 78) (e := 3) (key := .string ⟨#[115, 117, 98]⟩) (val := .int .i64 2) (Go.Maps.string_keyed Tryz.underlying9) Tryz.underlying78 (by unfold maxLen; omega) (Go.WideMaps.keyOf_string_mk Tryz.underlying9 (by decide)) (plainElem_int Tryz.underlying3 (by decide))
  obtain ⟨W4, r4, o4, g4⟩ := o3.update (t := 78) (e := 3) (key := .string ⟨#[109, 117, 108]⟩) (val := .int .i64 3) (Go.Maps.string_keyed Tryz.underlying9) Tryz.underlying78 (by unfold maxLen; omega) (Go.WideMaps.keyOf_string_mk Tryz.underlying9 (by decide)) (plainElem_int Tryz.underlying3 (by decide))
  obtain ⟨W5, r5, o5, g5⟩ := o4.update (t := 78) (e := 3) (key := .string ⟨#[100, 105, 118]⟩) (val := .int .i64 4) (Go.Maps.string_keyed Tryz.underlying9) Tryz.underlying78 (by unfold maxLen; omega) (Go.WideMaps.keyOf_string_mk Tryz.underlying9 (by decide)) (plainElem_int Tryz.underlying3 (by decide))
  have o6 : W5.ownsMap Tryz.prog 9 (plainElem (H := Unit) Tryz.prog 3) W.heap.size 5 cmdD := o5
  obtain ⟨vv, pp, rl, hat⟩ := o6.look_ok (t := 78) (e := 3) (key := .string ⟨#[100, 105, 118]⟩) (kl := .string [100, 105, 118]) (Go.Maps.string_keyed Tryz.underlying9) Tryz.underlying78 (zeroI _) (plainElem_int Tryz.underlying3 (by decide)) (Go.WideMaps.keyOf_string_mk Tryz.underlying9 (by decide))
  rw [has_div] at rl
  obtain ⟨c, rfl, hc, -⟩ := plainElem_int_inv Tryz.underlying3 hat
  have hc := look_div (congrArg Prod.fst hc)
  subst hc
  have gg := grownBy_trans (grownBy_trans (grownBy_trans (grownBy_trans g1 g2) g3) g4) g5
  have hI := (HI.out.alloc (.map #[] 0)).grown gg (by intro e; injection e with e; have := HI.out.r.lt; omega) (by intro e; injection e with e; have := HI.out.r.lt; omega) (fun k hk => by injection hk with hk; have := HI.out.bel.size; omega)
  obtain ⟨kx0, kx1, kx2, kx3⟩ := blk4c hI.c
  have HI := Lib.hid hI
  clear hI hW o0 o1 o2 o3 o4 o5 o6 g1 g2 g3 g4 g5 gg hat
  go_wp2_with fail
  refine (HRD.out _ (HTB.out.below HI.out.bel) (cell0_below HM.out HI.out.bel)).mono ?_
  rintro e w6 ⟨rfl, hb⟩
  have hI := HI.out.below hb
  clear kx0 kx1 kx2 kx3 hb HI r1 r2 r3 r4 r5 rl
  obtain ⟨kx0, kx1, kx2, kx3⟩ := blk4c hI.c
  obtain ⟨kz0, kz1, kz2, kz3⟩ := blk4c hI.r
  obtain ⟨fz0, fz1, fz2, fz3⟩ := blk4f hI.r
  have HI := Lib.hid hI
  clear hI
  go_wp2_with fail
  refine wp_region_quiet_tail (C := InA w p q a x) 10 (by kernel_rfl) (by kernel_rfl) HI.out.drew ?_
  simp only [List.take_succ_cons, List.take_zero, List.drop_succ_cons, List.drop_zero]
  repeat
    (refine wpQuiet_step (fun K hK => ?_)
     go_simp
     first
       | (refine hK _ ?_; clear hK K)
       | (apply Exists.intro
          refine ⟨fun w' hw' => ?_, hK _ ?_⟩
          first
            | (go_at_call 63; with_reducible refine Calls.mono (div_impl p q a n _ ha hn h0) ?_; rintro e w2 ⟨rfl, hb2⟩; exact ⟨rfl, hw'.below hb2⟩)
            | (go_at_call 59; with_reducible refine Calls.mono (show_any p q a (cutV p q (rnd (dvX q a n) (dvY n))) x (cutV p q (rnd (dvX q a n) (dvY n)) == rnd (dvX q a n) (dvY n)) _) ?_; rintro e w2 ⟨rfl, hb2⟩; exact ⟨rfl, hw'.below hb2⟩)
            | (obtain ⟨c0, c1, c2, c3⟩ := blk4c hw'.c; go_simp; rfl)
          clear hK K))
  refine wpQuiet_nil ?_
  intro w2 hw2
  obtain ⟨d0, d1, d2, d3⟩ := blk4c hw2.r
  have f0 := hw2.r.frozen 0
  have f1 := hw2.r.frozen 1
  have f2 := hw2.r.frozen 2
  have f3 := hw2.r.frozen 3
  have bk := Lib.hid ((((hw2.r.set 0 (.int .i64 p)).set 1 (.int .i64 q)).set 2 (.int .i64 (cutV p q (rnd (dvX q a n) (dvY n))))).set 3 (.bool (x || !(cutV p q (rnd (dvX q a n) (dvY n)) == rnd (dvX q a n) (dvY n)))))
  have HB := Lib.hid hw2.bel
  clear hw2
  go_wp2_with fail
  have BK : Blk _ (w.heap.size + 1) 26 #[.int .i64 (p), .int .i64 (q), .int .i64 (cutV p q (rnd (dvX q a n) (dvY n))), .bool (x || !(cutV p q (rnd (dvX q a n) (dvY n)) == rnd (dvX q a n) (dvY n)))] := bk.out
  obtain ⟨q0, q1, q2, q3⟩ := blk4c BK
  refine bodyPost_ret (v := .tuple #[.agg #[.int .i64 (p), .int .i64 (q), .int .i64 (cutV p q (rnd (dvX q a n) (dvY n))), .bool (x || !(cutV p q (rnd (dvX q a n) (dvY n)) == rnd (dvX q a n) (dvY n)))], .bool true]) (by simp [results, Tryz.results27, go_sem, q0, q1, q2, q3]) rfl ?_
  exact ⟨rfl, (by have hb := HB.out; repeat' (first | (with_reducible exact Below.refl _ _) | (with_reducible assumption) | (with_reducible refine below_drewN ?_ _) | (with_reducible refine Below.drew ?_) | (with_reducible refine bl_alloc ?_ _) | (with_reducible refine bl_set ?_ ?_ _) | go_size | omega))⟩
end Go.Proofs.YtidnnnjjpjadlaaGreatDoor
