/- CalculatorLine of the program on a line that adds. No condition: contract for the walk of the law. -/
import Derived.Test.YtidnnnjjpjadlaaDoorCl
namespace Go.Proofs.YtidnnnjjpjadlaaDoor
open Go.ChangeShapes Go.WideShapes Go.ChangeAt Go.RowKit

set_option maxHeartbeats 1000000 in
theorem calv_any (p q a : Int) (x : Bool) (w : World) (h : fitB p q a = true) : Calls Tryd.prog 21 #[.agg #[.int .i64 p, .int .i64 q, .int .i64 a, .bool x]] w fun e w' => e = .returned (.bool true) ∧ Below w.heap.size w w' := by
  have FA := Lib.hid (fun w' => fits_impl p q a w')
  rw [h] at FA
  go_enter Tryd.func21, Tryd.ntmps21
  go_wp2_with fail
  refine (FA.out _).mono ?_
  rintro e w' ⟨rfl, hb⟩
  (repeat (replace hb := undrew hb)); (repeat (replace hb := unalloc hb))
  have HB := Lib.hid hb
  clear hb
  go_wp2_with fail
  go_ret
  exact ⟨rfl, HB.out⟩
def LnCut (w : World) (p q n : Int) (x : Bool) (t : ByteArray) (s : Value) (wx : World) : Prop := s = .string t ∧ Blk wx (w.heap.size + 1) 32 #[.int .i64 p, .int .i64 q, .int .i64 n, .bool x] ∧ Below w.heap.size w wx
theorem lnCut_mk {w w' : World} {p q n : Int} {x : Bool} {t : ByteArray} {c0 c1 c2 c3 : Value} (bt : Blk w' (w.heap.size + 1) 32 #[c0, c1, c2, c3]) (hb : Below w.heap.size w w') : LnCut w p q n x t (.string t) ((((w'.setCell ⟨w.heap.size + 1, 0, none⟩ (.int .i64 p)).setCell ⟨w.heap.size + 1, 1, none⟩ (.int .i64 q)).setCell ⟨w.heap.size + 1, 2, none⟩ (.int .i64 n)).setCell ⟨w.heap.size + 1, 3, none⟩ (.bool x)) :=
  ⟨rfl, (((bt.set 0 _).set 1 _).set 2 _).set 3 _, (((hb.setCell (Nat.le_succ _) _).setCell (Nat.le_succ _) _).setCell (Nat.le_succ _) _).setCell (Nat.le_succ _) _⟩
set_option maxRecDepth 100000 in
set_option maxHeartbeats 16000000 in
theorem line_add (p q a n : Int) (x : Bool) (s : ByteArray) (w : World) (hfit : fitB p q a = true) (hs1 : (s.toList == [99, 108, 101, 97, 114]) = false) (hs2 : (s.toList == [99, 117, 116]) = false) (hT : HT w)
    (haft : ∀ w', Below w.heap.size w w' → Calls Tryd.prog 22 #[.agg #[.int .i64 p, .int .i64 q, .int .i64 a, .bool x], .string s] w' fun e w'' => e = .returned (.tuple #[.agg #[.int .i64 p, .int .i64 q, .int .i64 (adN p q a n), .bool (x || !(adOk p q a n))], .bool true]) ∧ Below w'.heap.size w' w'') :
    Calls Tryd.prog 9 #[.agg #[.int .i64 p, .int .i64 q, .int .i64 a, .bool x], .string s] w fun e w' => e = .returned (.tuple #[.agg #[.int .i64 p, .int .i64 q, .int .i64 (adN p q a n), .bool (x || !(adOk p q a n))], .string (sOf (sText p q (adN p q a n)))]) ∧ Below w.heap.size w w' := by
  have HTB := Lib.hid hT
  have HAF := Lib.hid haft
  have HCV := Lib.hid (fun w' => calv_any p q a x w' hfit)
  have HB := Lib.hid (Below.refl w.heap.size w)
  have SI := Lib.hid (fun w' hT => st_impl p q (adN p q a n) w' hT)
  clear hT haft hfit
  generalize sOf (sText p q (adN p q a n)) = t at *
  generalize adN p q a n = v at *
  generalize (x || !(adOk p q a n)) = o at *
  go_enter Tryd.func9, Tryd.ntmps9
  go_wp2_with fail
  refine (HCV.out _).mono ?_
  rintro e w1 ⟨rfl, hb⟩
  have bx := ((Blk.new w 32 #[.int .i64 p, .int .i64 q, .int .i64 a, .bool x]).alloc (.cells #[.int .i64 0, .int .i64 0, .int .i64 0, .bool false] 32)).below hb (by simp <;> omega)
  have bz := (Blk.newAt (w := w.alloc (.cells #[.int .i64 p, .int .i64 q, .int .i64 a, .bool x] 32)) (t := 32) (cs := #[.int .i64 0, .int .i64 0, .int .i64 0, .bool false]) (g := w.heap.size + 1) (by simp)).below hb (by simp <;> omega)
  have hbl := bl_behind (w := w) hb (by have hb0 := HB.out; repeat (first | (with_reducible exact hb0) | (with_reducible refine below_drewN ?_ _) | (with_reducible refine Below.drew ?_) | (with_reducible refine bl_alloc ?_ _)))
  obtain ⟨kx0, kx1, kx2, kx3⟩ := blk4c bx
  have hl1 := bx.lt
  have hl2 := bz.lt
  have Bx := Lib.hid bx
  have Bz := Lib.hid bz
  have HB := Lib.hid hbl
  clear bx bz hbl hb
  go_wp2_with fail
  refine (HAF.out _ HB.out).mono ?_
  rintro e w2 ⟨rfl, hb⟩
  have bz := (Bz.out.below hb Bz.out.lt).alloc (.cells #[.int .i64 p, .int .i64 q, .int .i64 v, .bool o] 32)
  have by_ := Blk.new w2 32 #[.int .i64 p, .int .i64 q, .int .i64 v, .bool o]
  have hbl := bl_alloc (bl_behind hb HB.out) (.cells #[.int .i64 p, .int .i64 q, .int .i64 v, .bool o] 32)
  have hsz := hb.size
  generalize hW : w2.alloc (.cells #[.int .i64 p, .int .i64 q, .int .i64 v, .bool o] 32) = W at *
  obtain ⟨kx0, kx1, kx2, kx3⟩ := blk4c by_
  obtain ⟨kz0, kz1, kz2, kz3⟩ := blk4c bz
  have fz0 := bz.frozen 0
  have fz1 := bz.frozen 1
  have fz2 := bz.frozen 2
  have fz3 := bz.frozen 3
  have Bx := Lib.hid by_
  have Bz := Lib.hid bz
  have HB := Lib.hid hbl
  have hl2 := bz.lt
  have hl1 := by_.lt
  have hn1 : w.heap.size + 1 ≠ w2.heap.size := by omega
  have hn2 : w2.heap.size ≠ w.heap.size + 1 := by omega
  clear bz by_ hbl hb
  go_wp2_with fail
  clear hW
  go_cut [5] (fun s wx => LnCut w p q v o t s wx)
  case first =>
    go_region_with
      (first
       | (go_at_call 10; refine (SI.out _ (HTB.out.below (by have hb0 := HB.out; repeat (first | (with_reducible exact hb0) | (with_reducible refine below_drewN ?_ _) | (with_reducible refine Below.drew ?_) | (with_reducible refine bl_alloc ?_ _))))).mono ?_; rintro e w7 ⟨rfl, hb⟩; (repeat (replace hb := undrew hb)); (repeat (replace hb := undrewN hb)); have bx := Bx.out.below hb Bx.out.lt; have bz := Bz.out.below hb Bz.out.lt; have hbl := bl_behind hb HB.out; clear hb kx0 kx1 kx2 kx3 kz0 kz1 kz2 kz3 fz0 fz1 fz2 fz3 hl1 hl2 Bx Bz HB; obtain ⟨kx0, kx1, kx2, kx3⟩ := blk4c bx; obtain ⟨kz0, kz1, kz2, kz3⟩ := blk4c bz; have fz0 := bz.frozen 0; have fz1 := bz.frozen 1; have fz2 := bz.frozen 2; have fz3 := bz.frozen 3; have hl1 := bx.lt; have hl2 := bz.lt; have Bx := Lib.hid bx; have Bz := Lib.hid bz; have HB := Lib.hid hbl; clear bx bz hbl))
    all_goals go_wp2_with fail
    all_goals go_meet
    all_goals exact lnCut_mk Bz.out HB.out
  case rest =>
    obtain ⟨rfl, bk, hb⟩ := hcut
    obtain ⟨k0, k1, k2, k3⟩ := blk4c bk
    have HB := Lib.hid hb
    clear bk hb kx0 kx1 kx2 kx3 kz0 kz1 kz2 kz3
    go_wp2_with fail
    refine bodyPost_ret (v := .tuple #[.agg #[.int .i64 p, .int .i64 q, .int .i64 v, .bool o], .string t]) (by simp [results, Tryd.results9, go_sem, k0, k1, k2, k3]) rfl ?_
    exact ⟨rfl, HB.out⟩
end Go.Proofs.YtidnnnjjpjadlaaDoor
