/- Drawn stored numbers and their texts. No condition: contracts for the walks of the laws. -/
import Derived.Test.YtcgbbbcanmkcbaaDoorDrawSt
import Derived.Test.YtcgbbbcanmkcbaaDoorDrawRf
import Derived.Test.YtcgbbbcanmkcbaaDoorSt
namespace Go.Proofs.YtcgbbbcanmkcbaaDoor
open Go.ChangeShapes Go.WideShapes Go.ChangeAt Go.RowKit

def WhPost (w : World) (e : Ending) (w' : World) : Prop := ∃ p q n : Int, (-1 ≤ p ∧ p ≤ 17) ∧ (-1 ≤ q ∧ q ≤ 17) ∧ (-268435457 ≤ n ∧ n ≤ 9223372036854775807) ∧ e = .returned (.tuple #[.agg #[.int .i64 p, .int .i64 q], .int .i64 n]) ∧ Below w.heap.size w w'
def WhCut (w : World) (p q : Int) (s : Value) (wx : World) : Prop := ∃ n : Int, (-268435457 ≤ n ∧ n ≤ 9223372036854775807) ∧ s = .int .i64 n ∧ Blk wx w.heap.size 25 #[.int .i64 p, .int .i64 q] ∧ Below w.heap.size w wx
theorem whCut_mk {w w' : World} {p q n : Int} {x y : Value} (h1 : -268435457 ≤ n) (h2 : n ≤ 9223372036854775807) (bt : Blk w' w.heap.size 25 #[x, y]) (hb : Below w.heap.size w w') : WhCut w p q (.int .i64 n) ((w'.setCell ⟨w.heap.size, 0, none⟩ (.int .i64 p)).setCell ⟨w.heap.size, 1, none⟩ (.int .i64 q)) :=
  ⟨n, ⟨h1, h2⟩, rfl, (bt.set 0 _).set 1 _, (hb.setCell (Nat.le_refl _) _).setCell (Nat.le_refl _) _⟩
set_option maxHeartbeats 8000000 in
theorem drawwholeof_any {w : World} {a : Option Addr} {len cap : Nat} {zs : List Int} (hrow : IsRow .u8 w a len cap zs) :
    Calls Tryd.prog 42 #[.slice a len cap] w (WhPost w) := by
  have hB2 : Below w.heap.size w (w.alloc (.cells #[.int .i64 0, .int .i64 0] 25)) := (Below.refl _ w).alloc (Nat.le_refl _) _
  go_enter Tryd.func42, Tryd.ntmps42
  go_wp2_with fail
  refine (open_base hB2 hrow).mono ?_
  rintro e w1 ⟨rfl, R0, hb1⟩
  rw [World.size_alloc] at R0
  have hl0 := R0.lt
  have bt := (Blk.new w 25 #[.int .i64 0, .int .i64 0]).below hb1 (by simp <;> omega)
  clear hb1 hB2 hrow
  go_wp2_with fail
  refine (l20format_any R0 (by omega) (by omega) (by omega)).mono ?_
  rintro e w2 ⟨p, q, p0, p1, q0, q1, rfl, R1, G1⟩
  have s1 := G1.size
  have bt := (bt.grown G1 (by intro e; injection e with e; first | omega | (simp at e; omega))).alloc (.cells #[.int .i64 p, .int .i64 q] 25)
  have bf := Blk.new w2 25 #[.int .i64 p, .int .i64 q]
  have RW := R1.alloc (.cells #[.int .i64 p, .int .i64 q] 25)
  have hg2 : w.heap.size + 1 < w2.heap.size := R1.lt
  obtain ⟨t0, t1, tf0, tf1, tl⟩ := blk2 bt
  obtain ⟨c0, c1, cf0, cf1, cl⟩ := blk2 bf
  clear R0 R1 G1
  generalize hW : w2.alloc (.cells #[.int .i64 p, .int .i64 q] 25) = W at *
  have hne : w.heap.size ≠ w2.heap.size := by omega
  have hne' : w2.heap.size ≠ w.heap.size := by omega
  go_wp2_with fail
  clear hW
  have BT := Lib.hid bt
  have BF := Lib.hid bf
  clear bt bf
  go_cut [3] (fun s wx => WhCut w p q s wx)
  case first =>
    go_region_with
      (first | (go_at_call 49; refine (l20stored_any (RW.drew) (by omega) (by omega) (by omega)).mono ?_; rintro e w3 ⟨x, hx0, hx1, rfl, R3, G3⟩; have bt := BT.out.drew.grown G3 (by intro e; injection e with e; first | omega | (simp at e; omega)); have bf := BF.out.drew.grown G3 (by intro e; injection e with e; first | omega | (simp at e; omega)); obtain ⟨t0, t1, tf0, tf1, tl⟩ := blk2 bt; obtain ⟨c0, c1, cf0, cf1, cl⟩ := blk2 bf; have BT := Lib.hid bt; have BF := Lib.hid bf; have HR := Lib.hid R3.below; clear bt bf R3 G3))
    all_goals go_wp2_with fail
    all_goals go_meet
    all_goals exact whCut_mk hx0 hx1 BT.out HR.out
  case rest =>
    obtain ⟨n, ⟨hn0, hn1⟩, rfl, bk, hb⟩ := hcut
    obtain ⟨k0, k1, -, -, -⟩ := blk2 bk
    have HB := Lib.hid hb
    clear bk hb
    go_wp2_with fail
    refine bodyPost_ret (v := .tuple #[.agg #[.int .i64 p, .int .i64 q], .int .i64 n]) (by simp [results, Tryd.results42, go_sem, k0, k1]) rfl ?_
    exact ⟨p, q, n, ⟨p0, p1⟩, ⟨q0, q1⟩, ⟨hn0, hn1⟩, rfl, HB.out⟩
set_option maxHeartbeats 1000000 in
theorem drawstoredtext_any {w : World} {a : Option Addr} {len cap : Nat} {zs : List Int} (hrow : IsRow .u8 w a len cap zs) :
    Calls Tryd.prog 21 #[.slice a len cap] w (WhPost w) := by
  have hZ := isRow_alloc hrow (.cells #[.int .i64 0, .int .i64 0] 25)
  clear hrow
  go_enter Tryd.func21, Tryd.ntmps21
  go_wp2_with fail
  refine (drawwholeof_any hZ).mono ?_
  rintro e w1 ⟨p, q, n, hp, hq, hn, rfl, hb⟩
  have bt := (Blk.new w 25 #[.int .i64 0, .int .i64 0]).below hb (by simp)
  obtain ⟨k0, k1, f0, f1, l0⟩ := blk2 bt
  have BT := Lib.hid bt
  have HB := Lib.hid (unalloc hb)
  clear hb bt hZ
  go_wp2_with fail
  have bk : Blk _ w.heap.size 25 #[.int .i64 p, .int .i64 q] := (BT.out.set 0 (.int .i64 p)).set 1 (.int .i64 q)
  obtain ⟨z0, z1, -, -, -⟩ := blk2 bk
  refine bodyPost_ret (v := .tuple #[.agg #[.int .i64 p, .int .i64 q], .int .i64 n]) (by simp [results, Tryd.results21, go_sem, z0, z1]) rfl ?_
  have hb := HB.out
  exact ⟨p, q, n, hp, hq, hn, rfl, (by repeat' (first | (with_reducible exact Below.refl _ _) | (with_reducible assumption) | (with_reducible refine below_drewN ?_ _) | (with_reducible refine Below.drew ?_) | (with_reducible refine bl_alloc ?_ _) | (with_reducible refine bl_set ?_ ?_ _) | go_size | omega))⟩
/-- A drawn text of a number. -/
def ShPost (w0 w : World) (g N : Nat) (e : Ending) (w' : World) : Prop := ∃ s : ByteArray, s.size ≤ 100 ∧ e = .returned (.string s) ∧ Rds w0 w' g N ∧ w.grownBy w' (some g)
theorem sText_size (p q n : Int) : (sOf (sText p q n)).size ≤ 30 := by
  rw [sOf_size]
  rcases hf : fitB p q n
  · rw [sText_out hf]; simp
  · obtain ⟨k1, k2, k3⟩ := fit_mag hf
    rcases (by omega : 0 ≤ n ∨ n < 0) with h | h
    · rw [sText_pos hf h]
      have := mText_len (q := q) h (by have := k1 h; omega)
      omega
    · rw [sText_neg hf h]
      have := mText_len (q := q) (m := -n) (by omega) (by have := k2 h; omega)
      simp; omega
def ShCut (w0 w : World) (g N : Nat) (s : Value) (wx : World) : Prop := ∃ t : ByteArray, t.size ≤ 30 ∧ s = .string t ∧ Rds w0 wx g N ∧ w.grownBy wx (some g)
set_option maxHeartbeats 8000000 in
theorem l20shown_any {w0 w : World} {g N : Nat} {p q : Int} (R0 : Rds w0 w g N) (hN : N ≤ 900000) :
    Calls Tryd.prog 48 #[.pointer (some ⟨g, 0, none⟩), .agg #[.int .i64 p, .int .i64 q]] w (ShPost w0 w g (N + 26)) := by
  have hlt := R0.lt
  have RW := R0.alloc (.cells #[.int .i64 p, .int .i64 q] 25)
  have GW := grownBy_alloc (grown_refl w (some g)) (.cells #[.int .i64 p, .int .i64 q] 25)
  have bf := Blk.new w 25 #[.int .i64 p, .int .i64 q]
  have hgw : g < w.heap.size := hlt
  go_enter Tryd.func48, Tryd.ntmps48
  go_wp2_with fail
  obtain ⟨c0, c1, cf0, cf1, cl⟩ := blk2 bf
  have BF := Lib.hid bf
  have HRW := Lib.hid RW
  have HGW := Lib.hid GW
  clear bf RW GW
  generalize w.alloc (.cells #[.int .i64 p, .int .i64 q] 25) = W at *
  go_cut [5] (fun s wx => ShCut w0 w g (N + 24) s wx)
  case first =>
    go_region_with
      (first | (go_at_call 49; refine (l20stored_any (HRW.out.drew) (by omega) (by omega) (by omega)).mono ?_; rintro e w3 ⟨x, hx0, hx1, rfl, R3, G3⟩; have bf := BF.out.drew.grown G3 (by intro e; injection e with e; first | omega | (simp at e; omega)); obtain ⟨c0, c1, cf0, cf1, cl⟩ := blk2 bf; have BF := Lib.hid bf; have HR3 := Lib.hid R3; have HG3 := Lib.hid (grownBy_trans HGW.out (⟨G3.os, G3.tape, G3.output, G3.size, G3.block⟩ : W.grownBy w3 (some g))); clear bf R3 G3)
             | (go_at_call 19; refine (st_spec _ _ _ _).mono ?_; rintro e w4 ⟨rfl, hb⟩; have HR4 := Lib.hid (HR3.out.past hb); have HG4 := Lib.hid (grownBy_below HG3.out hb); clear hb))
    all_goals go_wp2_with fail
    all_goals go_meet
    all_goals exact ⟨_, sText_size _ _ _, rfl, HR4.out, HG4.out⟩
  case rest =>
    obtain ⟨s, hz, rfl, R4, G4⟩ := hcut
    have hz1 : (s ++ (⟨#[48]⟩ : ByteArray)).size ≤ 31 := by rw [ByteArray.size_append]; have : (⟨#[48]⟩ : ByteArray).size = 1 := rfl; omega
    have hz2 : (s ++ (⟨#[32]⟩ : ByteArray)).size ≤ 31 := by rw [ByteArray.size_append]; have : (⟨#[32]⟩ : ByteArray).size = 1 := rfl; omega
    go_wp2_with fail
    refine (odd_any R4 (by omega) (by omega) (by omega)).mono ?_
    rintro e w5 ⟨bo, rfl, R5, G5⟩
    have G5 := grownBy_trans G4 G5
    cases bo
    · have HR := Lib.hid R5
      have HG := Lib.hid G5
      clear R4 R5 G4 G5 R0
      go_wp2_with fail
      go_ret
      exact ⟨s, by omega, rfl, HR.out.mono (by omega), HG.out⟩
    · go_wp2_with fail
      refine (pick_any (R5.alloc _) (by omega) (by omega) (by omega)).mono ?_
      rintro e w6 ⟨x, hx0, hx1, rfl, R6, G6⟩
      have hl := R5.lt
      have bA := (Blk.new w5 _ _).grown G6 (by intro e; injection e with e; omega)
      obtain ⟨t, ht, ct⟩ : ∃ t : ByteArray, t.size ≤ 100 ∧ w6.cell? ⟨w5.heap.size, x.toNat, none⟩ = some (.string t) := by
        rcases (by omega : x = 0 ∨ x = 1 ∨ x = 2 ∨ x = 3 ∨ x = 4 ∨ x = 5 ∨ x = 6 ∨ x = 7 ∨ x = 8 ∨ x = 9 ∨ x = 10 ∨ x = 11 ∨ x = 12 ∨ x = 13) with rfl | rfl | rfl | rfl | rfl | rfl | rfl | rfl | rfl | rfl | rfl | rfl | rfl | rfl
        all_goals first | exact ⟨_, by decide, bA.cell _⟩ | exact ⟨_, by omega, bA.cell _⟩
      have HR := Lib.hid R6
      have HG := Lib.hid (grownBy_trans (grownBy_alloc G5 _) G6)
      clear R0 R4 R5 R6 G4 G5 G6 bA
      go_wp2_with fail
      go_ret
      exact ⟨t, ht, rfl, HR.out.mono (by omega), HG.out⟩
def RtPost (w : World) (e : Ending) (w' : World) : Prop := ∃ (p q : Int) (s : ByteArray), (-1 ≤ p ∧ p ≤ 17) ∧ (-1 ≤ q ∧ q ≤ 17) ∧ s.size ≤ 100 ∧ e = .returned (.tuple #[.agg #[.int .i64 p, .int .i64 q], .string s]) ∧ Below w.heap.size w w'
def RtCut (w : World) (p q : Int) (s : Value) (wx : World) : Prop := ∃ t : ByteArray, t.size ≤ 100 ∧ s = .string t ∧ Blk wx w.heap.size 25 #[.int .i64 p, .int .i64 q] ∧ Below w.heap.size w wx
theorem rtCut_mk {w w' : World} {p q : Int} {t : ByteArray} {x y : Value} (h1 : t.size ≤ 100) (bt : Blk w' w.heap.size 25 #[x, y]) (hb : Below w.heap.size w w') : RtCut w p q (.string t) ((w'.setCell ⟨w.heap.size, 0, none⟩ (.int .i64 p)).setCell ⟨w.heap.size, 1, none⟩ (.int .i64 q)) :=
  ⟨t, h1, rfl, (bt.set 0 _).set 1 _, (hb.setCell (Nat.le_refl _) _).setCell (Nat.le_refl _) _⟩
set_option maxHeartbeats 8000000 in
theorem drawreadstored_any {w : World} {a : Option Addr} {len cap : Nat} {zs : List Int} (hrow : IsRow .u8 w a len cap zs) :
    Calls Tryd.prog 29 #[.slice a len cap] w (RtPost w) := by
  have hB2 : Below w.heap.size w (w.alloc (.cells #[.int .i64 0, .int .i64 0] 25)) := (Below.refl _ w).alloc (Nat.le_refl _) _
  go_enter Tryd.func29, Tryd.ntmps29
  go_wp2_with fail
  refine (open_base hB2 hrow).mono ?_
  rintro e w1 ⟨rfl, R0, hb1⟩
  rw [World.size_alloc] at R0
  have hl0 := R0.lt
  have bt := (Blk.new w 25 #[.int .i64 0, .int .i64 0]).below hb1 (by simp <;> omega)
  clear hb1 hB2 hrow
  go_wp2_with fail
  refine (l20format_any R0 (by omega) (by omega) (by omega)).mono ?_
  rintro e w2 ⟨p, q, p0, p1, q0, q1, rfl, R1, G1⟩
  have s1 := G1.size
  have bt := (bt.grown G1 (by intro e; injection e with e; first | omega | (simp at e; omega))).alloc (.cells #[.int .i64 p, .int .i64 q] 25)
  have bf := Blk.new w2 25 #[.int .i64 p, .int .i64 q]
  have RW := R1.alloc (.cells #[.int .i64 p, .int .i64 q] 25)
  have hg2 : w.heap.size + 1 < w2.heap.size := R1.lt
  obtain ⟨t0, t1, tf0, tf1, tl⟩ := blk2 bt
  obtain ⟨c0, c1, cf0, cf1, cl⟩ := blk2 bf
  clear R0 R1 G1
  generalize hW : w2.alloc (.cells #[.int .i64 p, .int .i64 q] 25) = W at *
  have hne : w.heap.size ≠ w2.heap.size := by omega
  have hne' : w2.heap.size ≠ w.heap.size := by omega
  go_wp2_with fail
  clear hW
  have BT := Lib.hid bt
  have BF := Lib.hid bf
  clear bt bf
  go_cut [3] (fun s wx => RtCut w p q s wx)
  case first =>
    go_region_with
      (first | (go_at_call 48; refine (l20shown_any (RW.drew) (by omega)).mono ?_; rintro e w3 ⟨t, ht, rfl, R3, G3⟩; have bt := BT.out.drew.grown G3 (by intro e; injection e with e; first | omega | (simp at e; omega)); have bf := BF.out.drew.grown G3 (by intro e; injection e with e; first | omega | (simp at e; omega)); obtain ⟨t0, t1, tf0, tf1, tl⟩ := blk2 bt; obtain ⟨c0, c1, cf0, cf1, cl⟩ := blk2 bf; have BT := Lib.hid bt; have BF := Lib.hid bf; have HR := Lib.hid R3.below; clear bt bf R3 G3))
    all_goals go_wp2_with fail
    all_goals go_meet
    all_goals exact rtCut_mk ht BT.out HR.out
  case rest =>
    obtain ⟨t, ht, rfl, bk, hb⟩ := hcut
    obtain ⟨k0, k1, -, -, -⟩ := blk2 bk
    have HB := Lib.hid hb
    clear bk hb
    go_wp2_with fail
    refine bodyPost_ret (v := .tuple #[.agg #[.int .i64 p, .int .i64 q], .string t]) (by simp [results, Tryd.results29, go_sem, k0, k1]) rfl ?_
    exact ⟨p, q, t, ⟨p0, p1⟩, ⟨q0, q1⟩, ht, rfl, HB.out⟩
end Go.Proofs.YtcgbbbcanmkcbaaDoor
