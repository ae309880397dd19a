/- ReadFormat of the program. No condition. -/
import Derived.Test.YtidnnnjjpjadlaaDoorRd
import Derived.Lib.SlicesS
namespace Go.Proofs.YtidnnnjjpjadlaaDoor
open Go.ChangeShapes Go.WideShapes Go.ChangeAt Go.RowKit

/-- The text's pieces around its first point. -/
def cutL (s : ByteArray) : List UInt8 := (Lib.cut s.data.toList [46]).1
def cutR (s : ByteArray) : List UInt8 := (Lib.cut s.data.toList [46]).2.1
theorem cut_dot (s : ByteArray) (m : Int) (w : World) (hs : s.size < 4294967281) (hm : w.cell? ⟨0, 0, none⟩ = some (.int .i64 m)) : Calls Tryd.prog 29 #[.string s, .string ⟨#[46]⟩] w fun e w' => e = .returned (.tuple #[.string (sOf (cutL s)), .string (sOf (cutR s)), .bool (Lib.cut s.data.toList [46]).2.2]) ∧ ∃ n, w' = w.drewN n :=
  Tryd.strings_Cut s ⟨#[46]⟩ m w hs hm
/-- What ReadFormat returns. -/
def rfGood (s : ByteArray) : Prop := (cutL s).length ≤ 2 ∧ (cutR s).length ≤ 2 ∧ (rdN (cutL s) 0).2 = true ∧ (rdN (cutR s) 0).2 = true ∧ fmtB (rdN (cutL s) 0).1 (rdN (cutR s) 0).1 = true ∧ sOf (fText (rdN (cutL s) 0).1 (rdN (cutR s) 0).1) = s
theorem cell0_lt {w : World} {m : Int} (hm : w.cell? ⟨0, 0, none⟩ = some (.int .i64 m)) : 0 < w.heap.size := by
  rcases Nat.eq_zero_or_pos w.heap.size with h | h
  · simp [World.cell?, Array.getElem?_eq_none (Nat.le_of_eq h)] at hm
  · exact h
theorem cell0_below {w w' : World} {m : Int} (hm : w.cell? ⟨0, 0, none⟩ = some (.int .i64 m)) (hb : Below w.heap.size w w') : w'.cell? ⟨0, 0, none⟩ = some (.int .i64 m) := by
  have e := hb.block 0 (cell0_lt hm)
  unfold World.cell? at hm ⊢
  simpa [e] using hm
theorem rd_at {l : List UInt8} {n : Int} {b : Bool} (h : rdN l 0 = (n, b)) (hl : l.length ≤ 17) (w : World) : Calls Tryd.prog 49 #[.string (sOf l)] w fun e w' => e = .returned (.tuple #[.int .i64 n, .bool b]) ∧ Below w.heap.size w w' := by
  have k := rd_impl (sOf l) w (by rw [sOf_size]; exact hl)
  have e : (sOf l).data.toList = l := rfl
  rw [e, h] at k
  exact k
set_option maxRecDepth 4000 in
set_option maxHeartbeats 1000000 in
theorem rf_a (s : ByteArray) (m : Int) (w : World) (hs : s.size < 4294967281) (hm : w.cell? ⟨0, 0, none⟩ = some (.int .i64 m)) (h : 2 < (cutL s).length) : Calls Tryd.prog 31 #[.string s] w fun e w' => e = .returned (.tuple #[.agg #[.int .i64 0, .int .i64 0], .bool false]) ∧ Below w.heap.size w w' := by
  have z := sOf_size (cutL s)
  have z' := sOf_size (cutR s)
  go_enter Tryd.func31, Tryd.ntmps31
  go_wp2_with fail
  refine (cut_dot s m _ hs (cell0_below hm (by repeat (first | (with_reducible exact Below.refl _ _) | (with_reducible refine below_drewN ?_ _) | (with_reducible refine bl_alloc ?_ _))))).mono ?_
  rintro e w1 ⟨rfl, n, rfl⟩
  go_wp2_with fail
  refine bodyPost_ret (v := .tuple #[.agg #[.int .i64 0, .int .i64 0], .bool false]) (by simp [results, Tryd.results31, go_sem]) rfl ?_
  exact ⟨rfl, (by repeat' (first | (with_reducible exact Below.refl _ _) | (with_reducible assumption) | (with_reducible refine below_drewN ?_ _) | (with_reducible refine Below.drew ?_) | (with_reducible refine bl_alloc ?_ _) | (with_reducible refine bl_set ?_ ?_ _) | go_size | omega))⟩
set_option maxRecDepth 4000 in
set_option maxHeartbeats 1000000 in
theorem rf_b (s : ByteArray) (m : Int) (w : World) (hs : s.size < 4294967281) (hm : w.cell? ⟨0, 0, none⟩ = some (.int .i64 m)) (h : (cutL s).length ≤ 2) (h2 : 2 < (cutR s).length) : Calls Tryd.prog 31 #[.string s] w fun e w' => e = .returned (.tuple #[.agg #[.int .i64 0, .int .i64 0], .bool false]) ∧ Below w.heap.size w w' := by
  have z := sOf_size (cutL s)
  have z' := sOf_size (cutR s)
  go_enter Tryd.func31, Tryd.ntmps31
  go_wp2_with fail
  refine (cut_dot s m _ hs (cell0_below hm (by repeat (first | (with_reducible exact Below.refl _ _) | (with_reducible refine below_drewN ?_ _) | (with_reducible refine bl_alloc ?_ _))))).mono ?_
  rintro e w1 ⟨rfl, n, rfl⟩
  go_wp2_with fail
  refine bodyPost_ret (v := .tuple #[.agg #[.int .i64 0, .int .i64 0], .bool false]) (by simp [results, Tryd.results31, go_sem]) rfl ?_
  exact ⟨rfl, (by repeat' (first | (with_reducible exact Below.refl _ _) | (with_reducible assumption) | (with_reducible refine below_drewN ?_ _) | (with_reducible refine Below.drew ?_) | (with_reducible refine bl_alloc ?_ _) | (with_reducible refine bl_set ?_ ?_ _) | go_size | omega))⟩
set_option maxRecDepth 4000 in
set_option maxHeartbeats 1000000 in
theorem rf_c (s : ByteArray) (m : Int) (w : World) (hs : s.size < 4294967281) (hm : w.cell? ⟨0, 0, none⟩ = some (.int .i64 m)) {a b : Int} {c : Bool} (h : (cutL s).length ≤ 2) (h2 : (cutR s).length ≤ 2) (e1 : rdN (cutL s) 0 = (a, false)) (e2 : rdN (cutR s) 0 = (b, c)) : Calls Tryd.prog 31 #[.string s] w fun e w' => e = .returned (.tuple #[.agg #[.int .i64 0, .int .i64 0], .bool false]) ∧ Below w.heap.size w w' := by
  have z := sOf_size (cutL s)
  have z' := sOf_size (cutR s)
  go_enter Tryd.func31, Tryd.ntmps31
  go_wp2_with fail
  refine (cut_dot s m _ hs (cell0_below hm (by repeat (first | (with_reducible exact Below.refl _ _) | (with_reducible refine below_drewN ?_ _) | (with_reducible refine bl_alloc ?_ _))))).mono ?_
  rintro e w1 ⟨rfl, n, rfl⟩
  go_wp2_with fail
  refine (rd_at e1 (by omega) _).mono ?_
  rintro e w2 ⟨rfl, hb⟩
  (repeat (replace hb := undrew hb)); have bs := ((Blk.new _ _ _).drewN _).below hb (by simp); have Bs := Lib.hid bs; obtain ⟨ks0, ks1, fs0, fs1, ls⟩ := blk2 bs; clear bs; (repeat (replace hb := undrewN hb)); (repeat (replace hb := unalloc hb)); have HB := Lib.hid hb; clear hb
  go_wp2_with fail
  refine (rd_at e2 (by omega) _).mono ?_
  rintro e w3 ⟨rfl, hb⟩
  (repeat (replace hb := undrewN hb)); (repeat (replace hb := undrew hb)); (repeat (replace hb := unalloc hb)); have bs := Bs.out.below hb Bs.out.lt; obtain ⟨ks0, ks1, fs0, fs1, ls⟩ := blk2 bs; have Bs := Lib.hid bs; clear bs; have HB := Lib.hid (HB.out.trans (hb.mono HB.out.size)); clear hb
  go_wp2_with fail
  have bk : Blk _ w.heap.size 24 #[.int .i64 0, .int .i64 0] := ((Bs.out.set 0 (.int .i64 0)).set 1 (.int .i64 0)).alloc (.cells #[.int .i64 a, .int .i64 b] 24)
  obtain ⟨k0, k1, -, -, -⟩ := blk2 bk
  refine bodyPost_ret (v := .tuple #[.agg #[.int .i64 0, .int .i64 0], .bool false]) (by simp [results, Tryd.results31, go_sem, k0, k1]) rfl ?_
  have hb := HB.out
  exact ⟨rfl, (by repeat' (first | (with_reducible exact Below.refl _ _) | (with_reducible assumption) | (with_reducible refine below_drewN ?_ _) | (with_reducible refine Below.drew ?_) | (with_reducible refine bl_alloc ?_ _) | (with_reducible refine bl_set ?_ ?_ _) | go_size | omega))⟩
set_option maxRecDepth 4000 in
set_option maxHeartbeats 1000000 in
theorem rf_d (s : ByteArray) (m : Int) (w : World) (hs : s.size < 4294967281) (hm : w.cell? ⟨0, 0, none⟩ = some (.int .i64 m)) {a b : Int} (h : (cutL s).length ≤ 2) (h2 : (cutR s).length ≤ 2) (e1 : rdN (cutL s) 0 = (a, true)) (e2 : rdN (cutR s) 0 = (b, false)) : Calls Tryd.prog 31 #[.string s] w fun e w' => e = .returned (.tuple #[.agg #[.int .i64 0, .int .i64 0], .bool false]) ∧ Below w.heap.size w w' := by
  have z := sOf_size (cutL s)
  have z' := sOf_size (cutR s)
  go_enter Tryd.func31, Tryd.ntmps31
  go_wp2_with fail
  refine (cut_dot s m _ hs (cell0_below hm (by repeat (first | (with_reducible exact Below.refl _ _) | (with_reducible refine below_drewN ?_ _) | (with_reducible refine bl_alloc ?_ _))))).mono ?_
  rintro e w1 ⟨rfl, n, rfl⟩
  go_wp2_with fail
  refine (rd_at e1 (by omega) _).mono ?_
  rintro e w2 ⟨rfl, hb⟩
  (repeat (replace hb := undrew hb)); have bs := ((Blk.new _ _ _).drewN _).below hb (by simp); have Bs := Lib.hid bs; obtain ⟨ks0, ks1, fs0, fs1, ls⟩ := blk2 bs; clear bs; (repeat (replace hb := undrewN hb)); (repeat (replace hb := unalloc hb)); have HB := Lib.hid hb; clear hb
  go_wp2_with fail
  refine (rd_at e2 (by omega) _).mono ?_
  rintro e w3 ⟨rfl, hb⟩
  (repeat (replace hb := undrewN hb)); (repeat (replace hb := undrew hb)); (repeat (replace hb := unalloc hb)); have bs := Bs.out.below hb Bs.out.lt; obtain ⟨ks0, ks1, fs0, fs1, ls⟩ := blk2 bs; have Bs := Lib.hid bs; clear bs; have HB := Lib.hid (HB.out.trans (hb.mono HB.out.size)); clear hb
  go_wp2_with fail
  have bk : Blk _ w.heap.size 24 #[.int .i64 0, .int .i64 0] := ((Bs.out.set 0 (.int .i64 0)).set 1 (.int .i64 0)).alloc (.cells #[.int .i64 a, .int .i64 b] 24)
  obtain ⟨k0, k1, -, -, -⟩ := blk2 bk
  refine bodyPost_ret (v := .tuple #[.agg #[.int .i64 0, .int .i64 0], .bool false]) (by simp [results, Tryd.results31, go_sem, k0, k1]) rfl ?_
  have hb := HB.out
  exact ⟨rfl, (by repeat' (first | (with_reducible exact Below.refl _ _) | (with_reducible assumption) | (with_reducible refine below_drewN ?_ _) | (with_reducible refine Below.drew ?_) | (with_reducible refine bl_alloc ?_ _) | (with_reducible refine bl_set ?_ ?_ _) | go_size | omega))⟩
set_option maxRecDepth 4000 in
set_option maxHeartbeats 1000000 in
theorem rf_e (s : ByteArray) (m : Int) (w : World) (hs : s.size < 4294967281) (hm : w.cell? ⟨0, 0, none⟩ = some (.int .i64 m)) {a b : Int} (h : (cutL s).length ≤ 2) (h2 : (cutR s).length ≤ 2) (e1 : rdN (cutL s) 0 = (a, true)) (e2 : rdN (cutR s) 0 = (b, true)) (hv : fmtB a b = false) : Calls Tryd.prog 31 #[.string s] w fun e w' => e = .returned (.tuple #[.agg #[.int .i64 0, .int .i64 0], .bool false]) ∧ Below w.heap.size w w' := by
  have z := sOf_size (cutL s)
  have z' := sOf_size (cutR s)
  go_enter Tryd.func31, Tryd.ntmps31
  go_wp2_with fail
  refine (cut_dot s m _ hs (cell0_below hm (by repeat (first | (with_reducible exact Below.refl _ _) | (with_reducible refine below_drewN ?_ _) | (with_reducible refine bl_alloc ?_ _))))).mono ?_
  rintro e w1 ⟨rfl, n, rfl⟩
  go_wp2_with fail
  refine (rd_at e1 (by omega) _).mono ?_
  rintro e w2 ⟨rfl, hb⟩
  (repeat (replace hb := undrew hb)); have bs := ((Blk.new _ _ _).drewN _).below hb (by simp); have Bs := Lib.hid bs; obtain ⟨ks0, ks1, fs0, fs1, ls⟩ := blk2 bs; clear bs; (repeat (replace hb := undrewN hb)); (repeat (replace hb := unalloc hb)); have HB := Lib.hid hb; clear hb
  go_wp2_with fail
  refine (rd_at e2 (by omega) _).mono ?_
  rintro e w3 ⟨rfl, hb⟩
  (repeat (replace hb := undrewN hb)); (repeat (replace hb := undrew hb)); (repeat (replace hb := unalloc hb)); have bs := Bs.out.below hb Bs.out.lt; obtain ⟨ks0, ks1, fs0, fs1, ls⟩ := blk2 bs; have Bs := Lib.hid bs; clear bs; have HB := Lib.hid (HB.out.trans (hb.mono HB.out.size)); clear hb
  go_wp2_with (first | (go_at_call 38; refine (fmvb_impl hv _).mono ?_; rintro e w' ⟨rfl, mm, rfl⟩))
  have bk : Blk _ w.heap.size 24 #[.int .i64 0, .int .i64 0] := ((((Bs.out.alloc (.cells #[.int .i64 a, .int .i64 b] 24)).alloc (.cells #[.int .i64 a, .int .i64 b] 24)).drewN mm).set 0 (.int .i64 0)).set 1 (.int .i64 0)
  obtain ⟨k0, k1, -, -, -⟩ := blk2 bk
  refine bodyPost_ret (v := .tuple #[.agg #[.int .i64 0, .int .i64 0], .bool false]) (by simp [results, Tryd.results31, go_sem, k0, k1]) rfl ?_
  have hb := HB.out
  exact ⟨rfl, (by repeat' (first | (with_reducible exact Below.refl _ _) | (with_reducible assumption) | (with_reducible refine below_drewN ?_ _) | (with_reducible refine Below.drew ?_) | (with_reducible refine bl_alloc ?_ _) | (with_reducible refine bl_set ?_ ?_ _) | go_size | omega))⟩
set_option maxRecDepth 4000 in
set_option maxHeartbeats 1000000 in
theorem rf_f (s : ByteArray) (m : Int) (w : World) (hs : s.size < 4294967281) (hm : w.cell? ⟨0, 0, none⟩ = some (.int .i64 m)) {a b : Int} (h : (cutL s).length ≤ 2) (h2 : (cutR s).length ≤ 2) (e1 : rdN (cutL s) 0 = (a, true)) (e2 : rdN (cutR s) 0 = (b, true)) (hv : fmtB a b = true) (hn : ¬ sOf (fText a b) = s) : Calls Tryd.prog 31 #[.string s] w fun e w' => e = .returned (.tuple #[.agg #[.int .i64 0, .int .i64 0], .bool false]) ∧ Below w.heap.size w w' := by
  have z := sOf_size (cutL s)
  have z' := sOf_size (cutR s)
  have q := (Lib.bytes_beq_false_iff _ _).2 hn
  go_enter Tryd.func31, Tryd.ntmps31
  go_wp2_with fail
  refine (cut_dot s m _ hs (cell0_below hm (by repeat (first | (with_reducible exact Below.refl _ _) | (with_reducible refine below_drewN ?_ _) | (with_reducible refine bl_alloc ?_ _))))).mono ?_
  rintro e w1 ⟨rfl, n, rfl⟩
  go_wp2_with fail
  refine (rd_at e1 (by omega) _).mono ?_
  rintro e w2 ⟨rfl, hb⟩
  (repeat (replace hb := undrew hb)); have bs := ((Blk.new _ _ _).drewN _).below hb (by simp); have Bs := Lib.hid bs; obtain ⟨ks0, ks1, fs0, fs1, ls⟩ := blk2 bs; clear bs; (repeat (replace hb := undrewN hb)); (repeat (replace hb := unalloc hb)); have HB := Lib.hid hb; clear hb
  go_wp2_with fail
  refine (rd_at e2 (by omega) _).mono ?_
  rintro e w3 ⟨rfl, hb⟩
  (repeat (replace hb := undrewN hb)); (repeat (replace hb := undrew hb)); (repeat (replace hb := unalloc hb)); have bs := Bs.out.below hb Bs.out.lt; obtain ⟨ks0, ks1, fs0, fs1, ls⟩ := blk2 bs; have Bs := Lib.hid bs; clear bs; have HB := Lib.hid (HB.out.trans (hb.mono HB.out.size)); clear hb
  go_wp2_with (first | (go_at_call 38; refine (fmvb_impl hv _).mono ?_; rintro e w' ⟨rfl, mm, rfl⟩))
  refine (ft_impl _ _ _).mono ?_
  rintro e w4 ⟨rfl, hb⟩
  have bf := (((Blk.new _ _ _).alloc _).drewN _).below hb (by first | (simp; done) | (simp; omega)); obtain ⟨kf0, kf1, ff0, ff1, lf⟩ := blk2 bf; have Bf := Lib.hid bf; clear bf; (repeat (first | (replace hb := undrewN hb) | (replace hb := undrew hb) | (replace hb := unalloc hb))); have bs := Bs.out.below hb Bs.out.lt; obtain ⟨ks0, ks1, fs0, fs1, ls⟩ := blk2 bs; have Bs := Lib.hid bs; clear bs; have HB := Lib.hid (HB.out.trans (hb.mono HB.out.size)); clear hb
  go_wp2_with fail
  have bk : Blk _ w.heap.size 24 #[.int .i64 0, .int .i64 0] := (Bs.out.set 0 (.int .i64 0)).set 1 (.int .i64 0)
  obtain ⟨k0, k1, -, -, -⟩ := blk2 bk
  refine bodyPost_ret (v := .tuple #[.agg #[.int .i64 0, .int .i64 0], .bool false]) (by simp [results, Tryd.results31, go_sem, k0, k1]) rfl ?_
  have hb := HB.out
  exact ⟨rfl, (by repeat' (first | (with_reducible exact Below.refl _ _) | (with_reducible assumption) | (with_reducible refine below_drewN ?_ _) | (with_reducible refine Below.drew ?_) | (with_reducible refine bl_alloc ?_ _) | (with_reducible refine bl_set ?_ ?_ _) | go_size | omega))⟩
set_option maxRecDepth 4000 in
set_option maxHeartbeats 1000000 in
theorem rf_g (s : ByteArray) (m : Int) (w : World) (hs : s.size < 4294967281) (hm : w.cell? ⟨0, 0, none⟩ = some (.int .i64 m)) {a b : Int} (h : (cutL s).length ≤ 2) (h2 : (cutR s).length ≤ 2) (e1 : rdN (cutL s) 0 = (a, true)) (e2 : rdN (cutR s) 0 = (b, true)) (hv : fmtB a b = true) (hn : sOf (fText a b) = s) : Calls Tryd.prog 31 #[.string s] w fun e w' => e = .returned (.tuple #[.agg #[.int .i64 a, .int .i64 b], .bool true]) ∧ Below w.heap.size w w' := by
  have z := sOf_size (cutL s)
  have z' := sOf_size (cutR s)
  have q := (Lib.bytes_beq_iff _ _).2 hn
  go_enter Tryd.func31, Tryd.ntmps31
  go_wp2_with fail
  refine (cut_dot s m _ hs (cell0_below hm (by repeat (first | (with_reducible exact Below.refl _ _) | (with_reducible refine below_drewN ?_ _) | (with_reducible refine bl_alloc ?_ _))))).mono ?_
  rintro e w1 ⟨rfl, n, rfl⟩
  go_wp2_with fail
  refine (rd_at e1 (by omega) _).mono ?_
  rintro e w2 ⟨rfl, hb⟩
  (repeat (replace hb := undrew hb)); have bs := ((Blk.new _ _ _).drewN _).below hb (by simp); have Bs := Lib.hid bs; obtain ⟨ks0, ks1, fs0, fs1, ls⟩ := blk2 bs; clear bs; (repeat (replace hb := undrewN hb)); (repeat (replace hb := unalloc hb)); have HB := Lib.hid hb; clear hb
  go_wp2_with fail
  refine (rd_at e2 (by omega) _).mono ?_
  rintro e w3 ⟨rfl, hb⟩
  (repeat (replace hb := undrewN hb)); (repeat (replace hb := undrew hb)); (repeat (replace hb := unalloc hb)); have bs := Bs.out.below hb Bs.out.lt; obtain ⟨ks0, ks1, fs0, fs1, ls⟩ := blk2 bs; have Bs := Lib.hid bs; clear bs; have HB := Lib.hid (HB.out.trans (hb.mono HB.out.size)); clear hb
  go_wp2_with (first | (go_at_call 38; refine (fmvb_impl hv _).mono ?_; rintro e w' ⟨rfl, mm, rfl⟩))
  refine (ft_impl _ _ _).mono ?_
  rintro e w4 ⟨rfl, hb⟩
  have bf := (((Blk.new _ _ _).alloc _).drewN _).below hb (by first | (simp; done) | (simp; omega)); obtain ⟨kf0, kf1, ff0, ff1, lf⟩ := blk2 bf; have Bf := Lib.hid bf; clear bf; (repeat (first | (replace hb := undrewN hb) | (replace hb := undrew hb) | (replace hb := unalloc hb))); have bs := Bs.out.below hb Bs.out.lt; obtain ⟨ks0, ks1, fs0, fs1, ls⟩ := blk2 bs; have Bs := Lib.hid bs; clear bs; have HB := Lib.hid (HB.out.trans (hb.mono HB.out.size)); clear hb
  go_wp2_with fail
  have bk : Blk _ w.heap.size 24 #[.int .i64 a, .int .i64 b] := (Bs.out.set 0 (.int .i64 a)).set 1 (.int .i64 b)
  obtain ⟨k0, k1, -, -, -⟩ := blk2 bk
  refine bodyPost_ret (v := .tuple #[.agg #[.int .i64 a, .int .i64 b], .bool true]) (by simp [results, Tryd.results31, go_sem, k0, k1]) rfl ?_
  have hb := HB.out
  exact ⟨rfl, (by repeat' (first | (with_reducible exact Below.refl _ _) | (with_reducible assumption) | (with_reducible refine below_drewN ?_ _) | (with_reducible refine Below.drew ?_) | (with_reducible refine bl_alloc ?_ _) | (with_reducible refine bl_set ?_ ?_ _) | go_size | omega))⟩
instance (s : ByteArray) : Decidable (rfGood s) := by unfold rfGood; exact inferInstance
/-- What ReadFormat returns for a text: see rfGood. -/
def rfA (s : ByteArray) : Int := if rfGood s then (rdN (cutL s) 0).1 else 0
def rfB (s : ByteArray) : Int := if rfGood s then (rdN (cutR s) 0).1 else 0
def rfOk (s : ByteArray) : Bool := decide (rfGood s)
theorem rf_no {s : ByteArray} (h : ¬ rfGood s) : rfA s = 0 ∧ rfB s = 0 ∧ rfOk s = false := by
  unfold rfA rfB rfOk
  simp [h]
theorem rf_yes {s : ByteArray} (h : rfGood s) : rfA s = (rdN (cutL s) 0).1 ∧ rfB s = (rdN (cutR s) 0).1 ∧ rfOk s = true := by
  unfold rfA rfB rfOk
  simp [h]
theorem rf_impl (s : ByteArray) (m : Int) (w : World) (hs : s.size < 4294967281) (hm : w.cell? ⟨0, 0, none⟩ = some (.int .i64 m)) : Calls Tryd.prog 31 #[.string s] w fun e w' => e = .returned (.tuple #[.agg #[.int .i64 (rfA s), .int .i64 (rfB s)], .bool (rfOk s)]) ∧ Below w.heap.size w w' := by
  by_cases hg : rfGood s
  · obtain ⟨e0, e1, e2⟩ := rf_yes hg
    rw [e0, e1, e2]
    obtain ⟨h, h2, h3, h4, h5, h6⟩ := hg
    exact rf_g s m w hs hm h h2 (by rw [← h3]) (by rw [← h4]) h5 h6
  · obtain ⟨e0, e1, e2⟩ := rf_no hg
    rw [e0, e1, e2]
    by_cases h : (cutL s).length ≤ 2
    · by_cases h2 : (cutR s).length ≤ 2
      · rcases g1 : rdN (cutL s) 0 with ⟨a, c⟩
        rcases g2 : rdN (cutR s) 0 with ⟨b, d⟩
        rcases c with _ | _
        · exact rf_c s m w hs hm h h2 g1 g2
        · rcases d with _ | _
          · exact rf_d s m w hs hm h h2 g1 g2
          · rcases hv : fmtB a b with _ | _
            · exact rf_e s m w hs hm h h2 g1 g2 hv
            · refine rf_f s m w hs hm h h2 g1 g2 hv fun hn => hg ?_
              unfold rfGood
              rw [g1, g2]
              exact ⟨h, h2, rfl, rfl, hv, hn⟩
      · exact rf_b s m w hs hm h (by omega)
    · exact rf_a s m w hs hm (by omega)
end Go.Proofs.YtidnnnjjpjadlaaDoor
