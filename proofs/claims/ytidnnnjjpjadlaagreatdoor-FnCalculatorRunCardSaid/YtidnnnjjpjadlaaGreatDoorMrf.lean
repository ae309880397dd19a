/- ReadFormat of the program. No condition. -/
import Derived.Test.YtidnnnjjpjadlaaGreatDoorRd
import Derived.Lib.SlicesS
import Derived.Lib.IndexMore
namespace Go.Proofs.YtidnnnjjpjadlaaGreatDoor
open Go.ChangeShapes Go.WideShapes Go.ChangeAt Go.RowKit

/-- The text's pieces around its first point. -/
def cutL (s : ByteArray) : List UInt8 := (Lib.cut s.data.toList [46]).1
def cutR (s : ByteArray) : List UInt8 := (Lib.cut s.data.toList [46]).2.1
theorem cut_dot (s : ByteArray) (m : Int) (w : World) (hs : s.size < 4294967281) (hm : w.cell? ⟨0, 0, none⟩ = some (.int .i64 m)) : Calls Tryz.prog 54 #[.string s, .string ⟨#[46]⟩] w fun e w' => e = .returned (.tuple #[.string (sOf (cutL s)), .string (sOf (cutR s)), .bool (Lib.cut s.data.toList [46]).2.2]) ∧ ∃ n, w' = w.drewN n :=
  Tryz.strings_Cut s ⟨#[46]⟩ m w hs hm
/-- What ReadFormat returns. -/
def rfGood (s : ByteArray) : Prop := (cutL s).length ≤ 2 ∧ (cutR s).length ≤ 2 ∧ (rdN (cutL s) 0).2 = true ∧ (rdN (cutR s) 0).2 = true ∧ fmtB (rdN (cutL s) 0).1 (rdN (cutR s) 0).1 = true ∧ sOf (fText (rdN (cutL s) 0).1 (rdN (cutR s) 0).1) = s
theorem cell0_lt {w : World} {m : Int} (hm : w.cell? ⟨0, 0, none⟩ = some (.int .i64 m)) : 0 < w.heap.size := by
  rcases Nat.eq_zero_or_pos w.heap.size with h | h
  · simp [World.cell?, Array.getElem?_eq_none (Nat.le_of_eq h)] at hm
  · exact h
theorem cell0_below {w w' : World} {m : Int} (hm : w.cell? ⟨0, 0, none⟩ = some (.int .i64 m)) (hb : Below w.heap.size w w') : w'.cell? ⟨0, 0, none⟩ = some (.int .i64 m) := by
  have e := hb.block 0 (cell0_lt hm)
  unfold World.cell? at hm ⊢
  simpa [e] using hm
theorem rd_at {l : List UInt8} {n : Int} {b : Bool} (h : rdN l 0 = (n, b)) (hl : l.length ≤ 17) (w : World) : Calls Tryz.prog 85 #[.string (sOf l)] w fun e w' => e = .returned (.tuple #[.int .i64 n, .bool b]) ∧ Below w.heap.size w w' := by
  have k := rd_impl (sOf l) w (by rw [sOf_size]; exact hl)
  have e : (sOf l).data.toList = l := rfl
  rw [e, h] at k
  exact k
set_option maxRecDepth 4000 in
set_option maxHeartbeats 1000000 in
theorem rf_a (s : ByteArray) (m : Int) (w : World) (hs : s.size < 4294967281) (hm : w.cell? ⟨0, 0, none⟩ = some (.int .i64 m)) (h : 2 < (cutL s).length) : Calls Tryz.prog 56 #[.string s] w fun e w' => e = .returned (.tuple #[.agg #[.int .i64 0, .int .i64 0], .bool false]) ∧ Below w.heap.size w w' := by
  have z := sOf_size (cutL s)
  have z' := sOf_size (cutR s)
  go_enter Tryz.func56, Tryz.ntmps56
  go_wp2_with fail
  refine (cut_dot s m _ hs (cell0_below hm (by repeat (first | (with_reducible exact Below.refl _ _) | (with_reducible refine below_drewN ?_ _) | (with_reducible refine bl_alloc ?_ _))))).mono ?_
  rintro e w1 ⟨rfl, n, rfl⟩
  go_wp2_with fail
  refine bodyPost_ret (v := .tuple #[.agg #[.int .i64 0, .int .i64 0], .bool false]) (by simp [results, Tryz.results56, go_sem]) rfl ?_
  exact ⟨rfl, (by repeat' (first | (with_reducible exact Below.refl _ _) | (with_reducible assumption) | (with_reducible refine below_drewN ?_ _) | (with_reducible refine Below.drew ?_) | (with_reducible refine bl_alloc ?_ _) | (with_reducible refine bl_set ?_ ?_ _) | go_size | omega))⟩
set_option maxRecDepth 4000 in
set_option maxHeartbeats 1000000 in
theorem rf_b (s : ByteArray) (m : Int) (w : World) (hs : s.size < 4294967281) (hm : w.cell? ⟨0, 0, none⟩ = some (.int .i64 m)) (h : (cutL s).length ≤ 2) (h2 : 2 < (cutR s).length) : Calls Tryz.prog 56 #[.string s] w fun e w' => e = .returned (.tuple #[.agg #[.int .i64 0, .int .i64 0], .bool false]) ∧ Below w.heap.size w w' := by
  have z := sOf_size (cutL s)
  have z' := sOf_size (cutR s)
  go_enter Tryz.func56, Tryz.ntmps56
  go_wp2_with fail
  refine (cut_dot s m _ hs (cell0_below hm (by repeat (first | (with_reducible exact Below.refl _ _) | (with_reducible refine below_drewN ?_ _) | (with_reducible refine bl_alloc ?_ _))))).mono ?_
  rintro e w1 ⟨rfl, n, rfl⟩
  go_wp2_with fail
  refine bodyPost_ret (v := .tuple #[.agg #[.int .i64 0, .int .i64 0], .bool false]) (by simp [results, Tryz.results56, go_sem]) rfl ?_
  exact ⟨rfl, (by repeat' (first | (with_reducible exact Below.refl _ _) | (with_reducible assumption) | (with_reducible refine below_drewN ?_ _) | (with_reducible refine Below.drew ?_) | (with_reducible refine bl_alloc ?_ _) | (with_reducible refine bl_set ?_ ?_ _) | go_size | omega))⟩
set_option maxRecDepth 4000 in
set_option maxHeartbeats 1000000 in
theorem rf_c (s : ByteArray) (m : Int) (w : World) (hs : s.size < 4294967281) (hm : w.cell? ⟨0, 0, none⟩ = some (.int .i64 m)) {a b : Int} {c : Bool} (h : (cutL s).length ≤ 2) (h2 : (cutR s).length ≤ 2) (e1 : rdN (cutL s) 0 = (a, false)) (e2 : rdN (cutR s) 0 = (b, c)) : Calls Tryz.prog 56 #[.string s] w fun e w' => e = .returned (.tuple #[.agg #[.int .i64 0, .int .i64 0], .bool false]) ∧ Below w.heap.size w w' := by
  have z := sOf_size (cutL s)
  have z' := sOf_size (cutR s)
  go_enter Tryz.func56, Tryz.ntmps56
  go_wp2_with fail
  refine (cut_dot s m _ hs (cell0_below hm (by repeat (first | (with_reducible exact Below.refl _ _) | (with_reducible refine below_drewN ?_ _) | (with_reducible refine bl_alloc ?_ _))))).mono ?_
  rintro e w1 ⟨rfl, n, rfl⟩
  go_wp2_with fail
  refine (rd_at e1 (by omega) _).mono ?_
  rintro e w2 ⟨rfl, hb⟩
  (repeat (replace hb := undrew hb)); have bs := ((Blk.new _ _ _).drewN _).below hb (by simp); have Bs := Lib.hid bs; obtain ⟨ks0, ks1, fs0, fs1, ls⟩ := blk2 bs; clear bs; (repeat (replace hb := undrewN hb)); (repeat (replace hb := unalloc hb)); have HB := Lib.hid hb; clear hb
  go_wp2_with fail
  refine (rd_at e2 (by omega) _).mono ?_
  rintro e w3 ⟨rfl, hb⟩
  (repeat (replace hb := undrewN hb)); (repeat (replace hb := undrew hb)); (repeat (replace hb := unalloc hb)); have bs := Bs.out.below hb Bs.out.lt; obtain ⟨ks0, ks1, fs0, fs1, ls⟩ := blk2 bs; have Bs := Lib.hid bs; clear bs; have HB := Lib.hid (HB.out.trans (hb.mono HB.out.size)); clear hb
  go_wp2_with fail
  have bk : Blk _ w.heap.size 24 #[.int .i64 0, .int .i64 0] := ((Bs.out.set 0 (.int .i64 0)).set 1 (.int .i64 0)).alloc (.cells #[.int .i64 a, .int .i64 b] 24)
  obtain ⟨k0, k1, -, -, -⟩ := blk2 bk
  refine bodyPost_ret (v := .tuple #[.agg #[.int .i64 0, .int .i64 0], .bool false]) (by simp [results, Tryz.results56, go_sem, k0, k1]) rfl ?_
  have hb := HB.out
  exact ⟨rfl, (by repeat' (first | (with_reducible exact Below.refl _ _) | (with_reducible assumption) | (with_reducible refine below_drewN ?_ _) | (with_reducible refine Below.drew ?_) | (with_reducible refine bl_alloc ?_ _) | (with_reducible refine bl_set ?_ ?_ _) | go_size | omega))⟩
set_option maxRecDepth 4000 in
set_option maxHeartbeats 1000000 in
theorem rf_d (s : ByteArray) (m : Int) (w : World) (hs : s.size < 4294967281) (hm : w.cell? ⟨0, 0, none⟩ = some (.int .i64 m)) {a b : Int} (h : (cutL s).length ≤ 2) (h2 : (cutR s).length ≤ 2) (e1 : rdN (cutL s) 0 = (a, true)) (e2 : rdN (cutR s) 0 = (b, false)) : Calls Tryz.prog 56 #[.string s] w fun e w' => e = .returned (.tuple #[.agg #[.int .i64 0, .int .i64 0], .bool false]) ∧ Below w.heap.size w w' := by
  have z := sOf_size (cutL s)
  have z' := sOf_size (cutR s)
  go_enter Tryz.func56, Tryz.ntmps56
  go_wp2_with fail
  refine (cut_dot s m _ hs (cell0_below hm (by repeat (first | (with_reducible exact Below.refl _ _) | (with_reducible refine below_drewN ?_ _) | (with_reducible refine bl_alloc ?_ _))))).mono ?_
  rintro e w1 ⟨rfl, n, rfl⟩
  go_wp2_with fail
  refine (rd_at e1 (by omega) _).mono ?_
  rintro e w2 ⟨rfl, hb⟩
  (repeat (replace hb := undrew hb)); have bs := ((Blk.new _ _ _).drewN _).below hb (by simp); have Bs := Lib.hid bs; obtain ⟨ks0, ks1, fs0, fs1, ls⟩ := blk2 bs; clear bs; (repeat (replace hb := undrewN hb)); (repeat (replace hb := unalloc hb)); have HB := Lib.hid hb; clear hb
  go_wp2_with fail
  refine (rd_at e2 (by omega) _).mono ?_
  rintro e w3 ⟨rfl, hb⟩
  (repeat (replace hb := undrewN hb)); (repeat (replace hb := undrew hb)); (repeat (replace hb := unalloc hb)); have bs := Bs.out.below hb Bs.out.lt; obtain ⟨ks0, ks1, fs0, fs1, ls⟩ := blk2 bs; have Bs := Lib.hid bs; clear bs; have HB := Lib.hid (HB.out.trans (hb.mono HB.out.size)); clear hb
  go_wp2_with fail
  have bk : Blk _ w.heap.size 24 #[.int .i64 0, .int .i64 0] := ((Bs.out.set 0 (.int .i64 0)).set 1 (.int .i64 0)).alloc (.cells #[.int .i64 a, .int .i64 b] 24)
  obtain ⟨k0, k1, -, -, -⟩ := blk2 bk
  refine bodyPost_ret (v := .tuple #[.agg #[.int .i64 0, .int .i64 0], .bool false]) (by simp [results, Tryz.results56, go_sem, k0, k1]) rfl ?_
  have hb := HB.out
  exact ⟨rfl, (by repeat' (first | (with_reducible exact Below.refl _ _) | (with_reducible assumption) | (with_reducible refine below_drewN ?_ _) | (with_reducible refine Below.drew ?_) | (with_reducible refine bl_alloc ?_ _) | (with_reducible refine bl_set ?_ ?_ _) | go_size | omega))⟩
set_option maxRecDepth 4000 in
set_option maxHeartbeats 1000000 in
theorem rf_e (s : ByteArray) (m : Int) (w : World) (hs : s.size < 4294967281) (hm : w.cell? ⟨0, 0, none⟩ = some (.int .i64 m)) {a b : Int} (h : (cutL s).length ≤ 2) (h2 : (cutR s).length ≤ 2) (e1 : rdN (cutL s) 0 = (a, true)) (e2 : rdN (cutR s) 0 = (b, true)) (hv : fmtB a b = false) : Calls Tryz.prog 56 #[.string s] w fun e w' => e = .returned (.tuple #[.agg #[.int .i64 0, .int .i64 0], .bool false]) ∧ Below w.heap.size w w' := by
  have z := sOf_size (cutL s)
  have z' := sOf_size (cutR s)
  go_enter Tryz.func56, Tryz.ntmps56
  go_wp2_with fail
  refine (cut_dot s m _ hs (cell0_below hm (by repeat (first | (with_reducible exact Below.refl _ _) | (with_reducible refine below_drewN ?_ _) | (with_reducible refine bl_alloc ?_ _))))).mono ?_
  rintro e w1 ⟨rfl, n, rfl⟩
  go_wp2_with fail
  refine (rd_at e1 (by omega) _).mono ?_
  rintro e w2 ⟨rfl, hb⟩
  (repeat (replace hb := undrew hb)); have bs := ((Blk.new _ _ _).drewN _).below hb (by simp); have Bs := Lib.hid bs; obtain ⟨ks0, ks1, fs0, fs1, ls⟩ := blk2 bs; clear bs; (repeat (replace hb := undrewN hb)); (repeat (replace hb := unalloc hb)); have HB := Lib.hid hb; clear hb
  go_wp2_with fail
  refine (rd_at e2 (by omega) _).mono ?_
  rintro e w3 ⟨rfl, hb⟩
  (repeat (replace hb := undrewN hb)); (repeat (replace hb := undrew hb)); (repeat (replace hb := unalloc hb)); have bs := Bs.out.below hb Bs.out.lt; obtain ⟨ks0, ks1, fs0, fs1, ls⟩ := blk2 bs; have Bs := Lib.hid bs; clear bs; have HB := Lib.hid (HB.out.trans (hb.mono HB.out.size)); clear hb
  go_wp2_with (first | (go_at_call 75; refine (fmvb_impl hv _).mono ?_; rintro e w' ⟨rfl, mm, rfl⟩))
  have bk : Blk _ w.heap.size 24 #[.int .i64 0, .int .i64 0] := ((((Bs.out.alloc (.cells #[.int .i64 a, .int .i64 b] 24)).alloc (.cells #[.int .i64 a, .int .i64 b] 24)).drewN mm).set 0 (.int .i64 0)).set 1 (.int .i64 0)
  obtain ⟨k0, k1, -, -, -⟩ := blk2 bk
  refine bodyPost_ret (v := .tuple #[.agg #[.int .i64 0, .int .i64 0], .bool false]) (by simp [results, Tryz.results56, go_sem, k0, k1]) rfl ?_
  have hb := HB.out
  exact ⟨rfl, (by repeat' (first | (with_reducible exact Below.refl _ _) | (with_reducible assumption) | (with_reducible refine below_drewN ?_ _) | (with_reducible refine Below.drew ?_) | (with_reducible refine bl_alloc ?_ _) | (with_reducible refine bl_set ?_ ?_ _) | go_size | omega))⟩
set_option maxRecDepth 4000 in
set_option maxHeartbeats 1000000 in
theorem rf_f (s : ByteArray) (m : Int) (w : World) (hs : s.size < 4294967281) (hm : w.cell? ⟨0, 0, none⟩ = some (.int .i64 m)) {a b : Int} (h : (cutL s).length ≤ 2) (h2 : (cutR s).length ≤ 2) (e1 : rdN (cutL s) 0 = (a, true)) (e2 : rdN (cutR s) 0 = (b, true)) (hv : fmtB a b = true) (hn : ¬ sOf (fText a b) = s) : Calls Tryz.prog 56 #[.string s] w fun e w' => e = .returned (.tuple #[.agg #[.int .i64 0, .int .i64 0], .bool false]) ∧ Below w.heap.size w w' := by
  have z := sOf_size (cutL s)
  have z' := sOf_size (cutR s)
  have q := (Lib.bytes_beq_false_iff _ _).2 hn
  go_enter Tryz.func56, Tryz.ntmps56
  go_wp2_with fail
  refine (cut_dot s m _ hs (cell0_below hm (by repeat (first | (with_reducible exact Below.refl _ _) | (with_reducible refine below_drewN ?_ _) | (with_reducible refine bl_alloc ?_ _))))).mono ?_
  rintro e w1 ⟨rfl, n, rfl⟩
  go_wp2_with fail
  refine (rd_at e1 (by omega) _).mono ?_
  rintro e w2 ⟨rfl, hb⟩
  (repeat (replace hb := undrew hb)); have bs := ((Blk.new _ _ _).drewN _).below hb (by simp); have Bs := Lib.hid bs; obtain ⟨ks0, ks1, fs0, fs1, ls⟩ := blk2 bs; clear bs; (repeat (replace hb := undrewN hb)); (repeat (replace hb := unalloc hb)); have HB := Lib.hid hb; clear hb
  go_wp2_with fail
  refine (rd_at e2 (by omega) _).mono ?_
  rintro e w3 ⟨rfl, hb⟩
  (repeat (replace hb := undrewN hb)); (repeat (replace hb := undrew hb)); (repeat (replace hb := unalloc hb)); have bs := Bs.out.below hb Bs.out.lt; obtain ⟨ks0, ks1, fs0, fs1, ls⟩ := blk2 bs; have Bs := Lib.hid bs; clear bs; have HB := Lib.hid (HB.out.trans (hb.mono HB.out.size)); clear hb
  go_wp2_with (first | (go_at_call 75; refine (fmvb_impl hv _).mono ?_; rintro e w' ⟨rfl, mm, rfl⟩))
  refine (ft_impl _ _ _).mono ?_
  rintro e w4 ⟨rfl, hb⟩
  have bf := (((Blk.new _ _ _).alloc _).drewN _).below hb (by first | (simp; done) | (simp; omega)); obtain ⟨kf0, kf1, ff0, ff1, lf⟩ := blk2 bf; have Bf := Lib.hid bf; clear bf; (repeat (first | (replace hb := undrewN hb) | (replace hb := undrew hb) | (replace hb := unalloc hb))); have bs := Bs.out.below hb Bs.out.lt; obtain ⟨ks0, ks1, fs0, fs1, ls⟩ := blk2 bs; have Bs := Lib.hid bs; clear bs; have HB := Lib.hid (HB.out.trans (hb.mono HB.out.size)); clear hb
  go_wp2_with fail
  have bk : Blk _ w.heap.size 24 #[.int .i64 0, .int .i64 0] := (Bs.out.set 0 (.int .i64 0)).set 1 (.int .i64 0)
  obtain ⟨k0, k1, -, -, -⟩ := blk2 bk
  refine bodyPost_ret (v := .tuple #[.agg #[.int .i64 0, .int .i64 0], .bool false]) (by simp [results, Tryz.results56, go_sem, k0, k1]) rfl ?_
  have hb := HB.out
  exact ⟨rfl, (by repeat' (first | (with_reducible exact Below.refl _ _) | (with_reducible assumption) | (with_reducible refine below_drewN ?_ _) | (with_reducible refine Below.drew ?_) | (with_reducible refine bl_alloc ?_ _) | (with_reducible refine bl_set ?_ ?_ _) | go_size | omega))⟩
set_option maxRecDepth 4000 in
set_option maxHeartbeats 1000000 in
theorem rf_g (s : ByteArray) (m : Int) (w : World) (hs : s.size < 4294967281) (hm : w.cell? ⟨0, 0, none⟩ = some (.int .i64 m)) {a b : Int} (h : (cutL s).length ≤ 2) (h2 : (cutR s).length ≤ 2) (e1 : rdN (cutL s) 0 = (a, true)) (e2 : rdN (cutR s) 0 = (b, true)) (hv : fmtB a b = true) (hn : sOf (fText a b) = s) : Calls Tryz.prog 56 #[.string s] w fun e w' => e = .returned (.tuple #[.agg #[.int .i64 a, .int .i64 b], .bool true]) ∧ Below w.heap.size w w' := by
  have z := sOf_size (cutL s)
  have z' := sOf_size (cutR s)
  have q := (Lib.bytes_beq_iff _ _).2 hn
  go_enter Tryz.func56, Tryz.ntmps56
  go_wp2_with fail
  refine (cut_dot s m _ hs (cell0_below hm (by repeat (first | (with_reducible exact Below.refl _ _) | (with_reducible refine below_drewN ?_ _) | (with_reducible refine bl_alloc ?_ _))))).mono ?_
  rintro e w1 ⟨rfl, n, rfl⟩
  go_wp2_with fail
  refine (rd_at e1 (by omega) _).mono ?_
  rintro e w2 ⟨rfl, hb⟩
  (repeat (replace hb := undrew hb)); have bs := ((Blk.new _ _ _).drewN _).below hb (by simp); have Bs := Lib.hid bs; obtain ⟨ks0, ks1, fs0, fs1, ls⟩ := blk2 bs; clear bs; (repeat (replace hb := undrewN hb)); (repeat (replace hb := unalloc hb)); have HB := Lib.hid hb; clear hb
  go_wp2_with fail
  refine (rd_at e2 (by omega) _).mono ?_
  rintro e w3 ⟨rfl, hb⟩
  (repeat (replace hb := undrewN hb)); (repeat (replace hb := undrew hb)); (repeat (replace hb := unalloc hb)); have bs := Bs.out.below hb Bs.out.lt; obtain ⟨ks0, ks1, fs0, fs1, ls⟩ := blk2 bs; have Bs := Lib.hid bs; clear bs; have HB := Lib.hid (HB.out.trans (hb.mono HB.out.size)); clear hb
  go_wp2_with (first | (go_at_call 75; refine (fmvb_impl hv _).mono ?_; rintro e w' ⟨rfl, mm, rfl⟩))
  refine (ft_impl _ _ _).mono ?_
  rintro e w4 ⟨rfl, hb⟩
  have bf := (((Blk.new _ _ _).alloc _).drewN _).below hb (by first | (simp; done) | (simp; omega)); obtain ⟨kf0, kf1, ff0, ff1, lf⟩ := blk2 bf; have Bf := Lib.hid bf; clear bf; (repeat (first | (replace hb := undrewN hb) | (replace hb := undrew hb) | (replace hb := unalloc hb))); have bs := Bs.out.below hb Bs.out.lt; obtain ⟨ks0, ks1, fs0, fs1, ls⟩ := blk2 bs; have Bs := Lib.hid bs; clear bs; have HB := Lib.hid (HB.out.trans (hb.mono HB.out.size)); clear hb
  go_wp2_with fail
  have bk : Blk _ w.heap.size 24 #[.int .i64 a, .int .i64 b] := (Bs.out.set 0 (.int .i64 a)).set 1 (.int .i64 b)
  obtain ⟨k0, k1, -, -, -⟩ := blk2 bk
  refine bodyPost_ret (v := .tuple #[.agg #[.int .i64 a, .int .i64 b], .bool true]) (by simp [results, Tryz.results56, go_sem, k0, k1]) rfl ?_
  have hb := HB.out
  exact ⟨rfl, (by repeat' (first | (with_reducible exact Below.refl _ _) | (with_reducible assumption) | (with_reducible refine below_drewN ?_ _) | (with_reducible refine Below.drew ?_) | (with_reducible refine bl_alloc ?_ _) | (with_reducible refine bl_set ?_ ?_ _) | go_size | omega))⟩
instance (s : ByteArray) : Decidable (rfGood s) := by unfold rfGood; exact inferInstance
/-- What ReadFormat returns for a text: see rfGood. -/
def rfA (s : ByteArray) : Int := if rfGood s then (rdN (cutL s) 0).1 else 0
def rfB (s : ByteArray) : Int := if rfGood s then (rdN (cutR s) 0).1 else 0
def rfOk (s : ByteArray) : Bool := decide (rfGood s)
theorem rf_no {s : ByteArray} (h : ¬ rfGood s) : rfA s = 0 ∧ rfB s = 0 ∧ rfOk s = false := by
  unfold rfA rfB rfOk
  simp [h]
theorem rf_yes {s : ByteArray} (h : rfGood s) : rfA s = (rdN (cutL s) 0).1 ∧ rfB s = (rdN (cutR s) 0).1 ∧ rfOk s = true := by
  unfold rfA rfB rfOk
  simp [h]
theorem rf_impl (s : ByteArray) (m : Int) (w : World) (hs : s.size < 4294967281) (hm : w.cell? ⟨0, 0, none⟩ = some (.int .i64 m)) : Calls Tryz.prog 56 #[.string s] w fun e w' => e = .returned (.tuple #[.agg #[.int .i64 (rfA s), .int .i64 (rfB s)], .bool (rfOk s)]) ∧ Below w.heap.size w w' := by
  by_cases hg : rfGood s
  · obtain ⟨e0, e1, e2⟩ := rf_yes hg
    rw [e0, e1, e2]
    obtain ⟨h, h2, h3, h4, h5, h6⟩ := hg
    exact rf_g s m w hs hm h h2 (by rw [← h3]) (by rw [← h4]) h5 h6
  · obtain ⟨e0, e1, e2⟩ := rf_no hg
    rw [e0, e1, e2]
    by_cases h : (cutL s).length ≤ 2
    · by_cases h2 : (cutR s).length ≤ 2
      · rcases g1 : rdN (cutL s) 0 with ⟨a, c⟩
        rcases g2 : rdN (cutR s) 0 with ⟨b, d⟩
        rcases c with _ | _
        · exact rf_c s m w hs hm h h2 g1 g2
        · rcases d with _ | _
          · exact rf_d s m w hs hm h h2 g1 g2
          · rcases hv : fmtB a b with _ | _
            · exact rf_e s m w hs hm h h2 g1 g2 hv
            · refine rf_f s m w hs hm h h2 g1 g2 hv fun hn => hg ?_
              unfold rfGood
              rw [g1, g2]
              exact ⟨h, h2, rfl, rfl, hv, hn⟩
      · exact rf_b s m w hs hm h (by omega)
    · exact rf_a s m w hs hm (by omega)
end Go.Proofs.YtidnnnjjpjadlaaGreatDoor

/- The texts of formats: cut and read they lead back to the format. No condition: plain law. -/
namespace Go.Proofs.YtidnnnjjpjadlaaGreatDoor
open Go.ChangeShapes Go.WideShapes Go.ChangeAt Go.RowKit

/-- A list cut round the first c. -/
def spl (c : UInt8) : List UInt8 → List UInt8 × List UInt8 × Bool
  | [] => ([], [], false)
  | b :: l => if b = c then ([], l, true) else (b :: (spl c l).1, (spl c l).2.1, (spl c l).2.2)
theorem index_one (b c : UInt8) (l : List UInt8) : Lib.index (b :: l) [c] = if b = c then 0 else if Lib.index l [c] = -1 then -1 else Lib.index l [c] + 1 := by
  rw [Lib.index]
  by_cases h : b = c
  · subst h
    simp [List.isPrefixOf]
  · have : ([c].isPrefixOf (b :: l)) = false := by simp [List.isPrefixOf]; exact fun e => h e.symm
    rw [this, if_neg h]
    by_cases h2 : Lib.index l [c] = -1 <;> simp [h2]
theorem index_ge (s sub : List UInt8) : -1 ≤ Lib.index s sub := by
  rcases Lib.index_spec s sub with ⟨h, -⟩ | ⟨i, h, -⟩ <;> omega
theorem cut_spl (c : UInt8) : ∀ l, Lib.cut l [c] = spl c l
  | [] => by
    unfold Lib.cut spl
    have : Lib.index [] [c] = -1 := by unfold Lib.index; rfl
    rw [this, if_neg (by omega)]
  | b :: l => by
    have ih := cut_spl c l
    have hg := index_ge l [c]
    unfold Lib.cut at ih ⊢
    unfold spl
    rw [index_one, ← ih]
    by_cases h : b = c
    · rw [if_pos h, if_pos h]; simp
    · rw [if_neg h, if_neg h]
      by_cases h2 : Lib.index l [c] = -1
      · rw [if_pos h2, h2]; simp
      · rw [if_neg h2, if_pos (by omega), if_pos (by omega)]
        have e : (Lib.index l [c] + 1).toNat = (Lib.index l [c]).toNat + 1 := by omega
        rw [e]
        simp
theorem spl_app {c : UInt8} : ∀ {l : List UInt8} (r : List UInt8), c ∉ l → spl c (l ++ c :: r) = (l, r, true)
  | [], r, _ => by simp [spl]
  | b :: l, r, h => by
    have h1 : ¬ b = c := fun e => h (by simp [e])
    have h2 := spl_app (l := l) r (fun m => h (List.mem_cons_of_mem _ m))
    rw [List.cons_append, spl, if_neg h1, h2]
theorem spl_none {c : UInt8} : ∀ {l : List UInt8}, c ∉ l → spl c l = (l, [], false)
  | [], _ => rfl
  | b :: l, h => by
    have h1 : ¬ b = c := fun e => h (by simp [e])
    have h2 := spl_none (l := l) (fun m => h (List.mem_cons_of_mem _ m))
    rw [spl, if_neg h1, h2]
def isDig (b : UInt8) : Prop := 48 ≤ b.toNat ∧ b.toNat ≤ 57
theorem dig_nat {d : Int} (h1 : 0 ≤ d) (h2 : d ≤ 9) : (UInt8.ofNat (48 + d).toNat).toNat = (48 + d).toNat := by
  rw [UInt8.toNat_ofNat']
  omega
theorem rdN_snoc : ∀ (l : List UInt8) (x : Int) (b : UInt8), (rdN l x).2 = true → isDig b → rdN (l ++ [b]) x = (10 * (rdN l x).1 + (b.toNat - 48), true)
  | [], x, b, _, hb => by
    unfold isDig at hb
    have e : rdN [b] x = if b.toNat < 48 ∨ 57 < b.toNat then (0, false) else (10 * x + (b.toNat - 48), true) := rfl
    rw [List.nil_append, e, if_neg (by omega)]
    rfl
  | a :: l, x, b, h, hb => by
    rw [List.cons_append, rdN]
    rw [rdN] at h
    by_cases hc : a.toNat < 48 ∨ 57 < a.toNat
    · rw [if_pos hc] at h; simp at h
    · rw [if_neg hc] at h ⊢
      rw [rdN_snoc l _ b h hb]
      conv => rhs; rw [rdN, if_neg hc]
theorem dec_dig : ∀ (k : Nat) (n : Int), n.toNat = k → 0 ≤ n → (∀ b ∈ dec n, isDig b) ∧ rdN (dec n) 0 = (n, true) ∧ dec n ≠ [] := by
  intro k
  induction k using Nat.strongRecOn with
  | ind k ih =>
    intro n hk hn
    have hd := dig_nat (d := n % 10) (by omega) (by omega)
    have hb : isDig (UInt8.ofNat (48 + n % 10).toNat) := by unfold isDig; rw [hd]; omega
    rcases (by omega : n ≤ 9 ∨ 9 < n) with h | h
    · rw [dec_one hn h]
      refine ⟨fun b hm => by simp at hm; rw [hm]; exact hb, ?_, by simp⟩
      have := rdN_snoc [] 0 _ rfl hb
      rw [List.nil_append] at this
      rw [this, hd]
      simp [rdN]
      omega
    · obtain ⟨i1, i2, -⟩ := ih (n / 10).toNat (by omega) (n / 10) rfl (by omega)
      rw [dec_more h]
      refine ⟨fun b hm => ?_, ?_, by simp⟩
      · simp only [List.mem_append, List.mem_singleton] at hm
        rcases hm with hm | hm
        · exact i1 b hm
        · rw [hm]; exact hb
      · rw [rdN_snoc _ _ _ (by rw [i2]) hb, i2, hd]
        congr 1
        dsimp only
        omega
theorem dec_digs {n : Int} (h : 0 ≤ n) : ∀ b ∈ dec n, isDig b := (dec_dig _ n rfl h).1
theorem rd_dec {n : Int} (h : 0 ≤ n) : rdN (dec n) 0 = (n, true) := (dec_dig _ n rfl h).2.1
theorem dig_no {l : List UInt8} {c : UInt8} (h : ∀ b ∈ l, isDig b) (hc : c.toNat < 48 ∨ 57 < c.toNat) : c ∉ l := fun m => by
  have := h c m
  unfold isDig at this
  omega
theorem dec_len2 {n : Int} (h : 0 ≤ n) (h2 : n ≤ 99) : (dec n).length ≤ 2 := by
  rcases (by omega : n ≤ 9 ∨ 9 < n) with h3 | h3
  · rw [dec_one h h3]; simp
  · rw [dec_more h3, dec_one (by omega) (by omega)]; simp
/-- A format's text leads back to it. -/
theorem fText_cut {p q : Int} {s : ByteArray} (h : fmtB p q = true) (hs : sOf (fText p q) = s) : cutL s = dec p ∧ cutR s = dec q := by
  obtain ⟨h1, h2, h3, h4⟩ := fmtB_mk h
  subst hs
  have e : (sOf (fText p q)).data.toList = dec p ++ 46 :: dec q := by
    unfold fText
    rw [if_pos h]
    simp [sOf]
  unfold cutL cutR
  rw [cut_spl, e, spl_app _ (dig_no (dec_digs (by omega)) (by decide))]
  exact ⟨rfl, rfl⟩
theorem fText_good {p q : Int} {s : ByteArray} (h : fmtB p q = true) (hs : sOf (fText p q) = s) : rfGood s ∧ (rdN (cutL s) 0).1 = p ∧ (rdN (cutR s) 0).1 = q := by
  obtain ⟨h1, h2, h3, h4⟩ := fmtB_mk h
  obtain ⟨e1, e2⟩ := fText_cut h hs
  unfold rfGood
  rw [e1, e2, rd_dec (by omega), rd_dec (by omega)]
  exact ⟨⟨dec_len2 (by omega) (by omega), dec_len2 (by omega) (by omega), rfl, rfl, h, hs⟩, rfl, rfl⟩
theorem rfGood_mk {s : ByteArray} (h : rfGood s) : ∃ p q, fmtB p q = true ∧ sOf (fText p q) = s := ⟨_, _, h.2.2.2.2.1, h.2.2.2.2.2⟩
theorem sp_bad {s : ByteArray} {a b : Int} (h : ¬ rfGood s) : ¬ (fmtB a b = true ∧ sOf (fText a b) = s) := fun k => h (fText_good k.1 k.2).1
end Go.Proofs.YtidnnnjjpjadlaaGreatDoor
