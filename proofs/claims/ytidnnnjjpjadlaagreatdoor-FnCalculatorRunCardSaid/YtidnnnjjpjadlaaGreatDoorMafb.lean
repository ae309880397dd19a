/- after: an unknown word, a text that is not read, a division by 0. No condition: contract for the walks of the laws. -/
import Derived.Test.YtidnnnjjpjadlaaGreatDoorAf3
namespace Go.Proofs.YtidnnnjjpjadlaaGreatDoor
open Go.ChangeShapes Go.WideShapes Go.ChangeAt Go.RowKit

set_option maxRecDepth 100000 in
set_option maxHeartbeats 16000000 in
theorem af_no (p q a n : Int) (x rd : Bool) (u : ByteArray) (c : Int) (kn : Bool) (nf : (u.toList == [102, 111, 114, 109, 97, 116]) = false) (hu : u.size < 1000000000) (hlk : cmdD.atKey (.string u.data.toList) (.lit (.int .i64 0)) = .lit (.int .i64 c) ∧ Go.Maps.has cmdD (.string u.data.toList) = kn) (hno : kn = false ∨ rd = false ∨ (c = 4 ∧ n = 0)) (s t : ByteArray) (m : Int) (w : World) (hT : HT w) (hm : (w.cell? ⟨0, 0, none⟩ = some (.int .i64 m))) (hcut : ∀ w', (w'.cell? ⟨0, 0, none⟩ = some (.int .i64 m)) → Calls Tryz.prog 54 #[.string s, .string ⟨#[32]⟩] w' fun e w'' => e = .returned (.tuple #[.string u, .string t, .bool true]) ∧ ∃ n, w'' = w'.drewN n) (hread : ∀ w', HT w' → (w'.cell? ⟨0, 0, none⟩ = some (.int .i64 m)) → Calls Tryz.prog 58 #[.agg #[.int .i64 p, .int .i64 q], .string t] w' fun e w'' => e = .returned (.tuple #[.int .i64 n, .bool rd]) ∧ Below w'.heap.size w' w'') :
    Calls Tryz.prog 27 #[.agg #[.int .i64 p, .int .i64 q, .int .i64 a, .bool x], .string s] w fun e w' => (∃ p' q' a' x', e = .returned (.tuple #[.agg #[.int .i64 (p'), .int .i64 (q'), .int .i64 (a'), .bool (x')], .bool false])) ∧ Below w.heap.size w w' := by
  have hmm := @run_makeMap Tryz.prog
  have HM := Lib.hid hm
  have HTB := Lib.hid hT
  have HCUT := Lib.hid hcut
  have HRD := Lib.hid hread
  clear hm hT hcut hread
  have HI : Hid (InA w p q a x ((w.alloc (.cells #[.int .i64 p, .int .i64 q, .int .i64 a, .bool x] 26)).alloc (.cells #[.int .i64 0, .int .i64 0, .int .i64 0, .bool false] 26))) := Lib.hid (InA.start w p q a x)
  go_enter Tryz.func27, Tryz.ntmps27
  go_wp2_with fail
  refine (HCUT.out _ (cell0_below HM.out HI.out.bel)).mono ?_
  rintro e w1 ⟨rfl, nq, rfl⟩
  have HI := Lib.hid (HI.out.drewN nq)
  generalize hW : (((w.alloc (.cells #[.int .i64 p, .int .i64 q, .int .i64 a, .bool x] 26)).alloc (.cells #[.int .i64 0, .int .i64 0, .int .i64 0, .bool false] 26)).drewN nq) = W at *
  have o0 : (W.alloc (.map #[] 0)).ownsMap Tryz.prog 9 (plainElem (H := Unit) Tryz.prog 3) W.heap.size 0 (.map []) := World.ownsMap_made _ _ _ _
  obtain ⟨W1, r1, o1, g1⟩ := o0.update (t := 78) (e := 3) (key := .string ⟨#[115, 101, 116]⟩) (val := .int .i64 0) (Go.Maps.string_keyed Tryz.underlying9) Tryz.underlying78 (by unfold maxLen; omega) (Go.WideMaps.keyOf_string_mk Tryz.underlying9 (by decide)) (plainElem_int Tryz.underlying3 (by decide))
  obtain ⟨W2, r2, o2, g2⟩ := o1.update (t := 78) (e := 3) (key := .string ⟨#[97, 100, 100]⟩) (val := .int .i64 1) (Go.Maps.string_keyed Tryz.underlying9) Tryz.underlying78 (by unfold maxLen; omega) (Go.WideMaps.keyOf_string_mk Tryz.underlying9 (by decide)) (plainElem_int Tryz.underlying3 (by decide))
  obtain ⟨W3, r3, o3, g3⟩ := o2.update (t := 78) (e := 3) (key := .string ⟨#[115, 117, 98]⟩) (val := .int .i64 2) (Go.Maps.string_keyed Tryz.underlying9) Tryz.underlying78 (by unfold maxLen; omega) (Go.WideMaps.keyOf_string_mk Tryz.underlying9 (by decide)) (plainElem_int Tryz.underlying3 (by decide))
  obtain ⟨W4, r4, o4, g4⟩ := o3.update (t := 78) (e := 3) (key := .string ⟨#[109, 117, 108]⟩) (val := .int .i64 3) (Go.Maps.string_keyed Tryz.underlying9) Tryz.underlying78 (by unfold maxLen; omega) (Go.WideMaps.keyOf_string_mk Tryz.underlying9 (by decide)) (plainElem_int Tryz.underlying3 (by decide))
  obtain ⟨W5, r5, o5, g5⟩ := o4.update (t := 78) (e := 3) (key := .string ⟨#[100, 105, 118]⟩) (val := .int .i64 4) (Go.Maps.string_keyed Tryz.underlying9) Tryz.underlying78 (by unfold maxLen; omega) (Go.WideMaps.keyOf_string_mk Tryz.underlying9 (by decide)) (plainElem_int Tryz.underlying3 (by decide))
  have o6 : W5.ownsMap Tryz.prog 9 (plainElem (H := Unit) Tryz.prog 3) W.heap.size 5 cmdD := o5
  obtain ⟨vv, pp, rl, hat⟩ := o6.look_ok (t := 78) (e := 3) (key := .string u) (kl := .string u.data.toList) (Go.Maps.string_keyed Tryz.underlying9) Tryz.underlying78 (zeroI _) (plainElem_int Tryz.underlying3 (by decide)) (Go.WideMaps.keyOf_string_mk Tryz.underlying9 (by unfold maxLen; omega))
  rw [hlk.2] at rl
  obtain ⟨c', rfl, hc, -⟩ := plainElem_int_inv Tryz.underlying3 hat
  have hc := congrArg Prod.fst hc
  simp only [] at hc
  rw [hlk.1] at hc
  injection hc with hc
  injection hc with _ hc
  subst hc
  have gg := grownBy_trans (grownBy_trans (grownBy_trans (grownBy_trans g1 g2) g3) g4) g5
  have hI := (HI.out.alloc (.map #[] 0)).grown gg (by intro e; injection e with e; have := HI.out.r.lt; omega) (by intro e; injection e with e; have := HI.out.r.lt; omega) (fun k hk => by injection hk with hk; have := HI.out.bel.size; omega)
  obtain ⟨kx0, kx1, kx2, kx3⟩ := blk4c hI.c
  have HI := Lib.hid hI
  clear hI hW o0 o1 o2 o3 o4 o5 o6 g1 g2 g3 g4 g5 gg hat
  have HNO := Lib.hid hno
  clear hlk hno
  go_wp2_with fail
  refine (HRD.out _ (HTB.out.below HI.out.bel) (cell0_below HM.out HI.out.bel)).mono ?_
  rintro e w6 ⟨rfl, hb⟩
  have hI := HI.out.below hb
  clear kx0 kx1 kx2 kx3 hb HI r1 r2 r3 r4 r5 rl
  obtain ⟨kx0, kx1, kx2, kx3⟩ := blk4c hI.c
  obtain ⟨kz0, kz1, kz2, kz3⟩ := blk4c hI.r
  obtain ⟨fz0, fz1, fz2, fz3⟩ := blk4f hI.r
  have HI := Lib.hid hI
  clear hI
  rcases HNO.out with rfl | rfl | ⟨rfl, rfl⟩
  · go_wp2_with fail
    have bk := Lib.hid ((((HI.out.r.set 0 (.int .i64 p)).set 1 (.int .i64 q)).set 2 (.int .i64 a)).set 3 (.bool x))
    have HB := Lib.hid HI.out.bel
    have BK : Blk _ (w.heap.size + 1) 26 #[.int .i64 p, .int .i64 q, .int .i64 a, .bool x] := bk.out
    obtain ⟨q0, q1, q2, q3⟩ := blk4c BK
    refine bodyPost_ret (v := .tuple #[.agg #[.int .i64 p, .int .i64 q, .int .i64 a, .bool x], .bool false]) (by simp [results, Tryz.results27, go_sem, q0, q1, q2, q3]) rfl ?_
    exact ⟨⟨_, _, _, _, rfl⟩, (by have hb := HB.out; repeat' (first | (with_reducible exact Below.refl _ _) | (with_reducible assumption) | (with_reducible refine below_drewN ?_ _) | (with_reducible refine Below.drew ?_) | (with_reducible refine bl_alloc ?_ _) | (with_reducible refine bl_set ?_ ?_ _) | go_size | omega))⟩
  · cases kn
    all_goals
      go_wp2_with fail
      have bk := Lib.hid ((((HI.out.r.set 0 (.int .i64 p)).set 1 (.int .i64 q)).set 2 (.int .i64 a)).set 3 (.bool x))
      have HB := Lib.hid HI.out.bel
      have BK : Blk _ (w.heap.size + 1) 26 #[.int .i64 p, .int .i64 q, .int .i64 a, .bool x] := bk.out
      obtain ⟨q0, q1, q2, q3⟩ := blk4c BK
      refine bodyPost_ret (v := .tuple #[.agg #[.int .i64 p, .int .i64 q, .int .i64 a, .bool x], .bool false]) (by simp [results, Tryz.results27, go_sem, q0, q1, q2, q3]) rfl ?_
      exact ⟨⟨_, _, _, _, rfl⟩, (by have hb := HB.out; repeat' (first | (with_reducible exact Below.refl _ _) | (with_reducible assumption) | (with_reducible refine below_drewN ?_ _) | (with_reducible refine Below.drew ?_) | (with_reducible refine bl_alloc ?_ _) | (with_reducible refine bl_set ?_ ?_ _) | go_size | omega))⟩
  · cases kn <;> cases rd
    all_goals
      go_wp2_with fail
      have bk := Lib.hid ((((HI.out.r.set 0 (.int .i64 p)).set 1 (.int .i64 q)).set 2 (.int .i64 a)).set 3 (.bool x))
      have HB := Lib.hid HI.out.bel
      have BK : Blk _ (w.heap.size + 1) 26 #[.int .i64 p, .int .i64 q, .int .i64 a, .bool x] := bk.out
      obtain ⟨q0, q1, q2, q3⟩ := blk4c BK
      refine bodyPost_ret (v := .tuple #[.agg #[.int .i64 p, .int .i64 q, .int .i64 a, .bool x], .bool false]) (by simp [results, Tryz.results27, go_sem, q0, q1, q2, q3]) rfl ?_
      exact ⟨⟨_, _, _, _, rfl⟩, (by have hb := HB.out; repeat' (first | (with_reducible exact Below.refl _ _) | (with_reducible assumption) | (with_reducible refine below_drewN ?_ _) | (with_reducible refine Below.drew ?_) | (with_reducible refine bl_alloc ?_ _) | (with_reducible refine bl_set ?_ ?_ _) | go_size | omega))⟩
end Go.Proofs.YtidnnnjjpjadlaaGreatDoor

/- after: another format; a line of one word. No condition: contracts for the walks of the laws. -/
namespace Go.Proofs.YtidnnnjjpjadlaaGreatDoor
open Go.ChangeShapes Go.WideShapes Go.ChangeAt Go.RowKit

set_option maxRecDepth 100000 in
set_option maxHeartbeats 16000000 in
theorem af_fmt (p q a A B N : Int) (x ok wh : Bool) (s t : ByteArray) (m : Int) (w : World) (hm : (w.cell? ⟨0, 0, none⟩ = some (.int .i64 m))) (hcut : ∀ w', (w'.cell? ⟨0, 0, none⟩ = some (.int .i64 m)) → Calls Tryz.prog 54 #[.string s, .string ⟨#[32]⟩] w' fun e w'' => e = .returned (.tuple #[.string ⟨#[102, 111, 114, 109, 97, 116]⟩, .string t, .bool true]) ∧ ∃ n, w'' = w'.drewN n)
    (hrf : ∀ w', (w'.cell? ⟨0, 0, none⟩ = some (.int .i64 m)) → Calls Tryz.prog 56 #[.string t] w' fun e w'' => e = .returned (.tuple #[.agg #[.int .i64 A, .int .i64 B], .bool ok]) ∧ Below w'.heap.size w' w'')
    (htf : ∀ w', Calls Tryz.prog 57 #[.int .i64 a, .agg #[.int .i64 p, .int .i64 q], .agg #[.int .i64 A, .int .i64 B]] w' fun e w'' => e = .returned (.tuple #[.int .i64 N, .bool wh]) ∧ Below w'.heap.size w' w'') :
    Calls Tryz.prog 27 #[.agg #[.int .i64 p, .int .i64 q, .int .i64 a, .bool x], .string s] w fun e w' => e = .returned (.tuple #[.agg #[.int .i64 (A), .int .i64 (B), .int .i64 (N), .bool (x || !wh)], .bool ok]) ∧ Below w.heap.size w w' := by
  have HM := Lib.hid hm
  have HCUT := Lib.hid hcut
  have HRF := Lib.hid hrf
  have HTF := Lib.hid htf
  clear hm hcut hrf htf
  have HI : Hid (InA w p q a x ((w.alloc (.cells #[.int .i64 p, .int .i64 q, .int .i64 a, .bool x] 26)).alloc (.cells #[.int .i64 0, .int .i64 0, .int .i64 0, .bool false] 26))) := Lib.hid (InA.start w p q a x)
  go_enter Tryz.func27, Tryz.ntmps27
  go_wp2_with fail
  refine (HCUT.out _ (cell0_below HM.out HI.out.bel)).mono ?_
  rintro e w1 ⟨rfl, nq, rfl⟩
  have HI := Lib.hid (HI.out.drewN nq)
  go_wp2_with fail
  refine (HRF.out _ (cell0_below HM.out HI.out.bel)).mono ?_
  rintro e w2 ⟨rfl, hb⟩
  have hI := HI.out.below hb
  clear HI hb
  obtain ⟨kx0, kx1, kx2, kx3⟩ := blk4c (hI.c.alloc (.cells #[.int .i64 A, .int .i64 B] 24))
  have hl1 := hI.c.lt
  have HI := Lib.hid (hI.alloc (.cells #[.int .i64 A, .int .i64 B] 24))
  clear hI
  go_wp2_with fail
  refine (HTF.out _).mono ?_
  rintro e w3 ⟨rfl, hb⟩
  have hI := HI.out.below hb
  have bf := (Blk.new w2 24 #[.int .i64 A, .int .i64 B]).below hb (by simp)
  clear HI hb kx0 kx1 kx2 kx3 hl1
  obtain ⟨kx0, kx1, kx2, kx3⟩ := blk4c hI.c
  obtain ⟨d0, d1, d2, d3⟩ := blk4c hI.r
  obtain ⟨f0, f1, f2, f3⟩ := blk4f hI.r
  obtain ⟨b0, b1, -, -, -⟩ := blk2 bf
  have HI := Lib.hid hI
  clear hI bf
  cases x <;> cases wh
  · go_wp2_with fail
    have bk := Lib.hid ((((HI.out.r.set 0 (.int .i64 A)).set 1 (.int .i64 B)).set 2 (.int .i64 N)).set 3 (.bool true))
    have HB := Lib.hid HI.out.bel
    have BK : Blk _ (w.heap.size + 1) 26 #[.int .i64 (A), .int .i64 (B), .int .i64 (N), .bool (true)] := bk.out
    obtain ⟨q0, q1, q2, q3⟩ := blk4c BK
    refine bodyPost_ret (v := .tuple #[.agg #[.int .i64 (A), .int .i64 (B), .int .i64 (N), .bool (true)], .bool ok]) (by simp [results, Tryz.results27, go_sem, q0, q1, q2, q3]) rfl ?_
    exact ⟨rfl, (by have hb := HB.out; repeat' (first | (with_reducible exact Below.refl _ _) | (with_reducible assumption) | (with_reducible refine below_drewN ?_ _) | (with_reducible refine Below.drew ?_) | (with_reducible refine bl_alloc ?_ _) | (with_reducible refine bl_set ?_ ?_ _) | go_size | omega))⟩
  · go_wp2_with fail
    have bk := Lib.hid ((((HI.out.r.set 0 (.int .i64 A)).set 1 (.int .i64 B)).set 2 (.int .i64 N)).set 3 (.bool false))
    have HB := Lib.hid HI.out.bel
    have BK : Blk _ (w.heap.size + 1) 26 #[.int .i64 (A), .int .i64 (B), .int .i64 (N), .bool (false)] := bk.out
    obtain ⟨q0, q1, q2, q3⟩ := blk4c BK
    refine bodyPost_ret (v := .tuple #[.agg #[.int .i64 (A), .int .i64 (B), .int .i64 (N), .bool (false)], .bool ok]) (by simp [results, Tryz.results27, go_sem, q0, q1, q2, q3]) rfl ?_
    exact ⟨rfl, (by have hb := HB.out; repeat' (first | (with_reducible exact Below.refl _ _) | (with_reducible assumption) | (with_reducible refine below_drewN ?_ _) | (with_reducible refine Below.drew ?_) | (with_reducible refine bl_alloc ?_ _) | (with_reducible refine bl_set ?_ ?_ _) | go_size | omega))⟩
  · go_wp2_with fail
    have bk := Lib.hid ((((HI.out.r.set 0 (.int .i64 A)).set 1 (.int .i64 B)).set 2 (.int .i64 N)).set 3 (.bool true))
    have HB := Lib.hid HI.out.bel
    have BK : Blk _ (w.heap.size + 1) 26 #[.int .i64 (A), .int .i64 (B), .int .i64 (N), .bool (true)] := bk.out
    obtain ⟨q0, q1, q2, q3⟩ := blk4c BK
    refine bodyPost_ret (v := .tuple #[.agg #[.int .i64 (A), .int .i64 (B), .int .i64 (N), .bool (true)], .bool ok]) (by simp [results, Tryz.results27, go_sem, q0, q1, q2, q3]) rfl ?_
    exact ⟨rfl, (by have hb := HB.out; repeat' (first | (with_reducible exact Below.refl _ _) | (with_reducible assumption) | (with_reducible refine below_drewN ?_ _) | (with_reducible refine Below.drew ?_) | (with_reducible refine bl_alloc ?_ _) | (with_reducible refine bl_set ?_ ?_ _) | go_size | omega))⟩
  · go_wp2_with fail
    have bk := Lib.hid ((((HI.out.r.set 0 (.int .i64 A)).set 1 (.int .i64 B)).set 2 (.int .i64 N)).set 3 (.bool true))
    have HB := Lib.hid HI.out.bel
    have BK : Blk _ (w.heap.size + 1) 26 #[.int .i64 (A), .int .i64 (B), .int .i64 (N), .bool (true)] := bk.out
    obtain ⟨q0, q1, q2, q3⟩ := blk4c BK
    refine bodyPost_ret (v := .tuple #[.agg #[.int .i64 (A), .int .i64 (B), .int .i64 (N), .bool (true)], .bool ok]) (by simp [results, Tryz.results27, go_sem, q0, q1, q2, q3]) rfl ?_
    exact ⟨rfl, (by have hb := HB.out; repeat' (first | (with_reducible exact Below.refl _ _) | (with_reducible assumption) | (with_reducible refine below_drewN ?_ _) | (with_reducible refine Below.drew ?_) | (with_reducible refine bl_alloc ?_ _) | (with_reducible refine bl_set ?_ ?_ _) | go_size | omega))⟩
set_option maxRecDepth 100000 in
set_option maxHeartbeats 16000000 in
theorem af_one (p q a P Q N : Int) (x X k : Bool) (s u t : ByteArray) (m : Int) (w : World) (hm : (w.cell? ⟨0, 0, none⟩ = some (.int .i64 m))) (hcut : ∀ w', (w'.cell? ⟨0, 0, none⟩ = some (.int .i64 m)) → Calls Tryz.prog 54 #[.string s, .string ⟨#[32]⟩] w' fun e w'' => e = .returned (.tuple #[.string u, .string t, .bool false]) ∧ ∃ n, w'' = w'.drewN n)
    (haw : ∀ w', Calls Tryz.prog 55 #[.agg #[.int .i64 p, .int .i64 q, .int .i64 a, .bool x], .string u] w' fun e w'' => e = .returned (.tuple #[.agg #[.int .i64 (P), .int .i64 (Q), .int .i64 (N), .bool (X)], .bool k]) ∧ Below w'.heap.size w' w'') :
    Calls Tryz.prog 27 #[.agg #[.int .i64 p, .int .i64 q, .int .i64 a, .bool x], .string s] w fun e w' => e = .returned (.tuple #[.agg #[.int .i64 (P), .int .i64 (Q), .int .i64 (N), .bool (X)], .bool k]) ∧ Below w.heap.size w w' := by
  have HM := Lib.hid hm
  have HCUT := Lib.hid hcut
  have HAW := Lib.hid haw
  clear hm hcut haw
  have HI : Hid (InA w p q a x ((w.alloc (.cells #[.int .i64 p, .int .i64 q, .int .i64 a, .bool x] 26)).alloc (.cells #[.int .i64 0, .int .i64 0, .int .i64 0, .bool false] 26))) := Lib.hid (InA.start w p q a x)
  go_enter Tryz.func27, Tryz.ntmps27
  go_wp2_with fail
  refine (HCUT.out _ (cell0_below HM.out HI.out.bel)).mono ?_
  rintro e w1 ⟨rfl, nq, rfl⟩
  have HI := Lib.hid (HI.out.drewN nq)
  go_wp2_with fail
  refine (HAW.out _).mono ?_
  rintro e w2 ⟨rfl, hb⟩
  have hw2 := HI.out.below hb
  clear hb HI
  obtain ⟨d0, d1, d2, d3⟩ := blk4c hw2.r
  have f0 := hw2.r.frozen 0
  have f1 := hw2.r.frozen 1
  have f2 := hw2.r.frozen 2
  have f3 := hw2.r.frozen 3
  have bk := Lib.hid ((((hw2.r.set 0 (.int .i64 P)).set 1 (.int .i64 Q)).set 2 (.int .i64 (N))).set 3 (.bool (X)))
  have HB := Lib.hid hw2.bel
  clear hw2
  go_wp2_with fail
  have BK : Blk _ (w.heap.size + 1) 26 #[.int .i64 (P), .int .i64 (Q), .int .i64 (N), .bool (X)] := bk.out
  obtain ⟨q0, q1, q2, q3⟩ := blk4c BK
  refine bodyPost_ret (v := .tuple #[.agg #[.int .i64 (P), .int .i64 (Q), .int .i64 (N), .bool (X)], .bool k]) (by simp [results, Tryz.results27, go_sem, q0, q1, q2, q3]) rfl ?_
  exact ⟨rfl, (by have hb := HB.out; repeat' (first | (with_reducible exact Below.refl _ _) | (with_reducible assumption) | (with_reducible refine below_drewN ?_ _) | (with_reducible refine Below.drew ?_) | (with_reducible refine bl_alloc ?_ _) | (with_reducible refine bl_set ?_ ?_ _) | go_size | omega))⟩
theorem af_one_no (p q a : Int) (x : Bool) (s u t : ByteArray) (m : Int) (w : World) (hm : (w.cell? ⟨0, 0, none⟩ = some (.int .i64 m))) (hcut : ∀ w', (w'.cell? ⟨0, 0, none⟩ = some (.int .i64 m)) → Calls Tryz.prog 54 #[.string s, .string ⟨#[32]⟩] w' fun e w'' => e = .returned (.tuple #[.string u, .string t, .bool false]) ∧ ∃ n, w'' = w'.drewN n)
    (haw : ∀ w', Calls Tryz.prog 55 #[.agg #[.int .i64 p, .int .i64 q, .int .i64 a, .bool x], .string u] w' fun e w'' => (∃ p' q' a' x', e = .returned (.tuple #[.agg #[.int .i64 (p'), .int .i64 (q'), .int .i64 (a'), .bool (x')], .bool false])) ∧ Below w'.heap.size w' w'') :
    Calls Tryz.prog 27 #[.agg #[.int .i64 p, .int .i64 q, .int .i64 a, .bool x], .string s] w fun e w' => (∃ p' q' a' x', e = .returned (.tuple #[.agg #[.int .i64 (p'), .int .i64 (q'), .int .i64 (a'), .bool (x')], .bool false])) ∧ Below w.heap.size w w' := by
  have HM := Lib.hid hm
  have HCUT := Lib.hid hcut
  have HAW := Lib.hid haw
  clear hm hcut haw
  have HI : Hid (InA w p q a x ((w.alloc (.cells #[.int .i64 p, .int .i64 q, .int .i64 a, .bool x] 26)).alloc (.cells #[.int .i64 0, .int .i64 0, .int .i64 0, .bool false] 26))) := Lib.hid (InA.start w p q a x)
  go_enter Tryz.func27, Tryz.ntmps27
  go_wp2_with fail
  refine (HCUT.out _ (cell0_below HM.out HI.out.bel)).mono ?_
  rintro e w1 ⟨rfl, nq, rfl⟩
  have HI := Lib.hid (HI.out.drewN nq)
  go_wp2_with fail
  refine (HAW.out _).mono ?_
  rintro e w2 ⟨⟨P, Q, N, X, rfl⟩, hb⟩
  have hw2 := HI.out.below hb
  clear hb HI
  obtain ⟨d0, d1, d2, d3⟩ := blk4c hw2.r
  have f0 := hw2.r.frozen 0
  have f1 := hw2.r.frozen 1
  have f2 := hw2.r.frozen 2
  have f3 := hw2.r.frozen 3
  have bk := Lib.hid ((((hw2.r.set 0 (.int .i64 P)).set 1 (.int .i64 Q)).set 2 (.int .i64 (N))).set 3 (.bool (X)))
  have HB := Lib.hid hw2.bel
  clear hw2
  go_wp2_with fail
  have BK : Blk _ (w.heap.size + 1) 26 #[.int .i64 (P), .int .i64 (Q), .int .i64 (N), .bool (X)] := bk.out
  obtain ⟨q0, q1, q2, q3⟩ := blk4c BK
  refine bodyPost_ret (v := .tuple #[.agg #[.int .i64 (P), .int .i64 (Q), .int .i64 (N), .bool (X)], .bool false]) (by simp [results, Tryz.results27, go_sem, q0, q1, q2, q3]) rfl ?_
  exact ⟨⟨_, _, _, _, rfl⟩, (by have hb := HB.out; repeat' (first | (with_reducible exact Below.refl _ _) | (with_reducible assumption) | (with_reducible refine below_drewN ?_ _) | (with_reducible refine Below.drew ?_) | (with_reducible refine bl_alloc ?_ _) | (with_reducible refine bl_set ?_ ?_ _) | go_size | omega))⟩
end Go.Proofs.YtidnnnjjpjadlaaGreatDoor
