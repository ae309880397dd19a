/- A drawn format with two stored numbers. No condition: contracts for the walks of the laws. -/
import Derived.Test.YtidnnnjjpjadlaaDoorDrawSt
namespace Go.Proofs.YtidnnnjjpjadlaaDoor
open Go.ChangeShapes Go.WideShapes Go.ChangeAt Go.RowKit

def AdPost (w : World) (e : Ending) (w' : World) : Prop := ∃ p q a b : Int, ((-1 ≤ p ∧ p ≤ 17) ∧ (-1 ≤ q ∧ q ≤ 17)) ∧ (-268435457 ≤ a ∧ a ≤ 9223372036854775807) ∧ (-268435457 ≤ b ∧ b ≤ 9223372036854775807) ∧ e = .returned (.tuple #[.agg #[.int .i64 p, .int .i64 q], .int .i64 a, .int .i64 b]) ∧ Below w.heap.size w w'
/-- The same, by a reader that lies at block g. -/
def AdRPost (w0 w : World) (g : Nat) (e : Ending) (w' : World) : Prop := ∃ p q a b : Int, ((-1 ≤ p ∧ p ≤ 17) ∧ (-1 ≤ q ∧ q ≤ 17)) ∧ (-268435457 ≤ a ∧ a ≤ 9223372036854775807) ∧ (-268435457 ≤ b ∧ b ≤ 9223372036854775807) ∧ e = .returned (.tuple #[.agg #[.int .i64 p, .int .i64 q], .int .i64 a, .int .i64 b]) ∧ Below w0.heap.size w0 w' ∧ w.grownBy w' (some g)
theorem grown_set {w w' : World} {r : Option Nat} (h : w.grownBy w' r) {p : Addr} (hp : w.heap.size ≤ p.block) (u : Value) : w.grownBy (w'.setCell p u) r :=
  ⟨h.os, h.tape, h.output, by have := h.size; simpa [World.setCell] using this, fun i hi hne => (Below.heap_setCell w' p u i (by intro e; omega)).trans (h.block i hi hne)⟩
def AdCut (w0 w : World) (g : Nat) (p q : Int) (s t : Value) (wx : World) : Prop := ∃ a b : Int, (-268435457 ≤ a ∧ a ≤ 9223372036854775807) ∧ (-268435457 ≤ b ∧ b ≤ 9223372036854775807) ∧ s = .int .i64 a ∧ t = .int .i64 b ∧ Blk wx w.heap.size 24 #[.int .i64 p, .int .i64 q] ∧ Below w0.heap.size w0 wx ∧ w.grownBy wx (some g)
theorem adCut_mk {w0 w w' : World} {g : Nat} {p q a b : Int} {x y : Value} (h1 : -268435457 ≤ a) (h2 : a ≤ 9223372036854775807) (h3 : -268435457 ≤ b) (h4 : b ≤ 9223372036854775807) (hw : w0.heap.size ≤ w.heap.size) (bt : Blk w' w.heap.size 24 #[x, y]) (hb : Below w0.heap.size w0 w') (hg : w.grownBy w' (some g)) : AdCut w0 w g p q (.int .i64 a) (.int .i64 b) ((w'.setCell ⟨w.heap.size, 0, none⟩ (.int .i64 p)).setCell ⟨w.heap.size, 1, none⟩ (.int .i64 q)) :=
  ⟨a, b, ⟨h1, h2⟩, ⟨h3, h4⟩, rfl, rfl, (bt.set 0 _).set 1 _, (hb.setCell hw _).setCell hw _, grown_set (grown_set hg (Nat.le_refl _) _) (Nat.le_refl _) _⟩
set_option maxHeartbeats 16000000 in
theorem l20two_any {w0 w : World} {g N : Nat} (R0 : Rds w0 w g N) (hN : N ≤ 900000) :
    Calls Tryd.prog 11 #[.pointer (some ⟨g, 0, none⟩)] w (AdRPost w0 w g) := by
  have hlt := R0.lt
  have hsz := R0.below.size
  have RA := R0.alloc (.cells #[.int .i64 0, .int .i64 0] 24)
  have bt := Blk.new w 24 #[.int .i64 0, .int .i64 0]
  go_enter Tryd.func11, Tryd.ntmps11
  go_wp2_with fail
  refine (l20format_any RA (by omega) (by omega) (by omega)).mono ?_
  rintro e w2 ⟨p, q, p0, p1, q0, q1, rfl, R1, G1⟩
  have s1 := G1.size
  rw [World.size_alloc] at s1
  have GW := grownBy_alloc (grownBy_trans (grownBy_alloc (grown_refl w (some g)) (.cells #[.int .i64 0, .int .i64 0] 24)) G1) (.cells #[.int .i64 p, .int .i64 q] 24)
  have bt := (bt.grown G1 (by intro e; injection e with e; first | omega | (simp at e; omega))).alloc (.cells #[.int .i64 p, .int .i64 q] 24)
  have bf := Blk.new w2 24 #[.int .i64 p, .int .i64 q]
  have RW := R1.alloc (.cells #[.int .i64 p, .int .i64 q] 24)
  have hg2 : g < w2.heap.size := R1.lt
  obtain ⟨t0, t1, tf0, tf1, tl⟩ := blk2 bt
  obtain ⟨c0, c1, cf0, cf1, cl⟩ := blk2 bf
  clear R0 R1 G1 RA
  generalize hW : w2.alloc (.cells #[.int .i64 p, .int .i64 q] 24) = W at *
  have hne : w.heap.size ≠ w2.heap.size := by omega
  have hne' : w2.heap.size ≠ w.heap.size := by omega
  go_wp2_with fail
  clear hW
  have BT := Lib.hid bt
  have BF := Lib.hid bf
  have RW := Lib.hid RW
  have GW := Lib.hid GW
  clear bt bf
  go_cut [3, 4] (fun s t wx => AdCut w0 w g p q s t wx)
  case first =>
    go_region_with
      (first
       | (have tok := RW; go_at_call 26; refine (l20stored_any (RW.out.drew) (by omega) (by omega) (by omega)).mono ?_; rintro e w3 ⟨x, hx0, hx1, rfl, R3, G3⟩; have bt := BT.out.drew.grown G3 (by intro e; injection e with e; first | omega | (simp at e; omega)); have bf := BF.out.drew.grown G3 (by intro e; injection e with e; first | omega | (simp at e; omega)); obtain ⟨t0, t1, tf0, tf1, tl⟩ := blk2 bt; obtain ⟨c0, c1, cf0, cf1, cl⟩ := blk2 bf; have BT := Lib.hid bt; have BF := Lib.hid bf; have RV := Lib.hid R3; have GV := Lib.hid (grownBy_trans GW.out (⟨G3.os, G3.tape, G3.output, G3.size, G3.block⟩ : W.grownBy w3 (some g))); clear bt bf R3 G3 RW tok)
       | (go_at_call 26; refine (l20stored_any (RV.out) (by omega) (by omega) (by omega)).mono ?_; rintro e w4 ⟨z, hz0, hz1, rfl, R3, G3⟩; have bt := BT.out.grown G3 (by intro e; injection e with e; first | omega | (simp at e; omega)); have bf := BF.out.grown G3 (by intro e; injection e with e; first | omega | (simp at e; omega)); obtain ⟨t0, t1, tf0, tf1, tl⟩ := blk2 bt; obtain ⟨c0, c1, cf0, cf1, cl⟩ := blk2 bf; have BT := Lib.hid bt; have BF := Lib.hid bf; have HR := Lib.hid R3.below; have GX := Lib.hid (grownBy_trans GV.out G3); clear bt bf R3 G3))
    all_goals go_wp2_with fail
    all_goals go_meet
    all_goals exact adCut_mk hx0 hx1 hz0 hz1 hsz BT.out HR.out GX.out
  case rest =>
    obtain ⟨a, b, ha, hb, rfl, rfl, bk, hbl, hgr⟩ := hcut
    obtain ⟨k0, k1, -, -, -⟩ := blk2 bk
    have HB := Lib.hid hbl
    have HGR := Lib.hid hgr
    clear bk hbl hgr
    go_wp2_with fail
    refine bodyPost_ret (v := .tuple #[.agg #[.int .i64 p, .int .i64 q], .int .i64 a, .int .i64 b]) (by simp [results, Tryd.results11, go_sem, k0, k1]) rfl ?_
    exact ⟨p, q, a, b, ⟨⟨p0, p1⟩, ⟨q0, q1⟩⟩, ha, hb, rfl, HB.out, HGR.out⟩
set_option maxHeartbeats 1000000 in
theorem drawadd_any {w : World} {a : Option Addr} {len cap : Nat} {zs : List Int} (hrow : IsRow .u8 w a len cap zs) :
    Calls Tryd.prog 4 #[.slice a len cap] w (AdPost w) := by
  have hB2 : Below w.heap.size w (w.alloc (.cells #[.int .i64 0, .int .i64 0] 24)) := (Below.refl _ w).alloc (Nat.le_refl _) _
  go_enter Tryd.func4, Tryd.ntmps4
  go_wp2_with fail
  refine (open_base hB2 hrow).mono ?_
  rintro e w1 ⟨rfl, R0, hb1⟩
  rw [World.size_alloc] at R0
  have bt := (Blk.new w 24 #[.int .i64 0, .int .i64 0]).below hb1 (by simp <;> omega)
  clear hb1 hB2 hrow
  go_wp2_with fail
  refine (l20two_any R0 (by omega)).mono ?_
  rintro e w2 ⟨p, q, x, y, hpq, hx, hy, rfl, hb, hg⟩
  have bt := bt.grown hg (by intro e; injection e with e; first | omega | (simp at e; omega))
  obtain ⟨k0, k1, f0, f1, l0⟩ := blk2 bt
  have BT := Lib.hid bt
  have HB := Lib.hid hb
  clear hb bt hg R0
  go_wp2_with fail
  have bk : Blk _ w.heap.size 24 #[.int .i64 p, .int .i64 q] := (BT.out.set 0 (.int .i64 p)).set 1 (.int .i64 q)
  obtain ⟨z0, z1, -, -, -⟩ := blk2 bk
  refine bodyPost_ret (v := .tuple #[.agg #[.int .i64 p, .int .i64 q], .int .i64 x, .int .i64 y]) (by simp [results, Tryd.results4, go_sem, z0, z1]) rfl ?_
  have hb := HB.out
  exact ⟨p, q, x, y, hpq, hx, hy, rfl, (by repeat' (first | (with_reducible exact Below.refl _ _) | (with_reducible assumption) | (with_reducible refine below_drewN ?_ _) | (with_reducible refine Below.drew ?_) | (with_reducible refine bl_alloc ?_ _) | (with_reducible refine bl_set ?_ ?_ _) | go_size | omega))⟩
end Go.Proofs.YtidnnnjjpjadlaaDoor
