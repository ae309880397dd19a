/- A drawn stored number with two formats. No condition: contracts for the walks of the laws. -/
import Derived.Test.YtcgbbbcanmkcbaaDoorDrawSt
namespace Go.Proofs.YtcgbbbcanmkcbaaDoor
open Go.ChangeShapes Go.WideShapes Go.ChangeAt Go.RowKit

def DfPost (w : World) (e : Ending) (w' : World) : Prop := ∃ n p q p2 q2 : Int, (-268435457 ≤ n ∧ n ≤ 9223372036854775807) ∧ ((-1 ≤ p ∧ p ≤ 17) ∧ (-1 ≤ q ∧ q ≤ 17)) ∧ ((-1 ≤ p2 ∧ p2 ≤ 17) ∧ (-1 ≤ q2 ∧ q2 ≤ 17)) ∧ e = .returned (.tuple #[.int .i64 n, .agg #[.int .i64 p, .int .i64 q], .agg #[.int .i64 p2, .int .i64 q2]]) ∧ Below w.heap.size w w'
def DfCut (w : World) (n p q : Int) (s : Value) (wx : World) : Prop := s = .int .i64 n ∧ ∃ p2 q2 : Int, ((-1 ≤ p2 ∧ p2 ≤ 17) ∧ (-1 ≤ q2 ∧ q2 ≤ 17)) ∧ Blk wx w.heap.size 25 #[.int .i64 p, .int .i64 q] ∧ Blk wx (w.heap.size + 1) 25 #[.int .i64 p2, .int .i64 q2] ∧ Below w.heap.size w wx
theorem dfCut_mk {w w' : World} {n p q p2 q2 : Int} {x y x' y' : Value} (h1 : -1 ≤ p2) (h2 : p2 ≤ 17) (h3 : -1 ≤ q2) (h4 : q2 ≤ 17) (bt : Blk w' w.heap.size 25 #[x, y]) (bu : Blk w' (w.heap.size + 1) 25 #[x', y']) (hb : Below w.heap.size w w') : DfCut w n p q (.int .i64 n) ((((w'.setCell ⟨w.heap.size, 0, none⟩ (.int .i64 p)).setCell ⟨w.heap.size, 1, none⟩ (.int .i64 q)).setCell ⟨w.heap.size + 1, 0, none⟩ (.int .i64 p2)).setCell ⟨w.heap.size + 1, 1, none⟩ (.int .i64 q2)) := by
  refine ⟨rfl, p2, q2, ⟨⟨h1, h2⟩, ⟨h3, h4⟩⟩, ?_, ?_, ?_⟩
  · exact (((bt.set 0 (.int .i64 p)).set 1 (.int .i64 q)).far (by simp) _).far (by simp) _
  · exact (((bu.far (by simp) _).far (by simp) _).set 0 (.int .i64 p2)).set 1 (.int .i64 q2)
  · exact (((hb.setCell (Nat.le_refl _) _).setCell (Nat.le_refl _) _).setCell (Nat.le_succ _) _).setCell (Nat.le_succ _) _
set_option maxHeartbeats 8000000 in
theorem drawtoformat_any {w : World} {a : Option Addr} {len cap : Nat} {zs : List Int} (hrow : IsRow .u8 w a len cap zs) :
    Calls Tryd.prog 30 #[.slice a len cap] w (DfPost w) := by
  have hB2 : Below w.heap.size w ((w.alloc (.cells #[.int .i64 0, .int .i64 0] 25)).alloc (.cells #[.int .i64 0, .int .i64 0] 25)) := ((Below.refl _ w).alloc (Nat.le_refl _) _).alloc (by simp) _
  go_enter Tryd.func30, Tryd.ntmps30
  go_wp2_with fail
  refine (open_base hB2 hrow).mono ?_
  rintro e w1 ⟨rfl, R0, hb1⟩
  rw [World.size_alloc, World.size_alloc] at R0
  have hl0 := R0.lt
  have bt := ((Blk.new w 25 #[.int .i64 0, .int .i64 0]).alloc (.cells #[.int .i64 0, .int .i64 0] 25)).below hb1 (by simp <;> omega)
  have bu := (Blk.newAt (w := w.alloc (.cells #[.int .i64 0, .int .i64 0] 25)) (t := 25) (cs := #[.int .i64 0, .int .i64 0]) (g := w.heap.size + 1) (by simp)).below hb1 (by simp <;> omega)
  clear hb1 hB2 hrow
  go_wp2_with fail
  refine (l20format_any R0 (by omega) (by omega) (by omega)).mono ?_
  rintro e w2 ⟨p, q, p0, p1, q0, q1, rfl, R1, G1⟩
  have s1 := G1.size
  have bt := (bt.grown G1 (by intro e; injection e with e; first | omega | (simp at e; omega))).alloc (.cells #[.int .i64 p, .int .i64 q] 25)
  have bu := (bu.grown G1 (by intro e; injection e with e; first | omega | (simp at e; omega))).alloc (.cells #[.int .i64 p, .int .i64 q] 25)
  have bf := Blk.new w2 25 #[.int .i64 p, .int .i64 q]
  have RW := R1.alloc (.cells #[.int .i64 p, .int .i64 q] 25)
  have hg2 : w.heap.size + 1 + 1 < w2.heap.size := R1.lt
  obtain ⟨t0, t1, tf0, tf1, tl⟩ := blk2 bt
  obtain ⟨u0, u1, uf0, uf1, ul⟩ := blk2 bu
  obtain ⟨c0, c1, cf0, cf1, cl⟩ := blk2 bf
  clear R0 R1 G1
  generalize hW : w2.alloc (.cells #[.int .i64 p, .int .i64 q] 25) = W at *
  have hne : w.heap.size ≠ w2.heap.size := by omega
  have hne' : w2.heap.size ≠ w.heap.size := by omega
  have hne2 : w.heap.size + 1 ≠ w2.heap.size := by omega
  have hne2' : w2.heap.size ≠ w.heap.size + 1 := by omega
  go_wp2_with fail
  clear hW
  refine (l20stored_any RW (by omega) (by omega) (by omega)).mono ?_
  rintro e w3 ⟨n, n0, n1, rfl, R3, G3⟩
  have bt := bt.grown G3 (by intro e; injection e with e; first | omega | (simp at e; omega))
  have bu := bu.grown G3 (by intro e; injection e with e; first | omega | (simp at e; omega))
  have bf := bf.grown G3 (by intro e; injection e with e; first | omega | (simp at e; omega))
  obtain ⟨t0, t1, tf0, tf1, tl⟩ := blk2 bt
  obtain ⟨u0, u1, uf0, uf1, ul⟩ := blk2 bu
  obtain ⟨c0, c1, cf0, cf1, cl⟩ := blk2 bf
  have BT := Lib.hid bt
  have BU := Lib.hid bu
  have BF := Lib.hid bf
  clear bt bu bf G3 RW
  go_wp2_with fail
  go_cut [2] (fun s wx => DfCut w n p q s wx)
  case first =>
    go_region_with
      (first | (go_at_call 35; refine (l20format_any (R3.drew) (by omega) (by omega) (by omega)).mono ?_; rintro e w4 ⟨p2, q2, x0, x1, z0, z1, rfl, R4, G4⟩; have bt := BT.out.drew.grown G4 (by intro e; injection e with e; first | omega | (simp at e; omega)); have bu := BU.out.drew.grown G4 (by intro e; injection e with e; first | omega | (simp at e; omega)); have bf := BF.out.drew.grown G4 (by intro e; injection e with e; first | omega | (simp at e; omega)); obtain ⟨t0, t1, tf0, tf1, tl⟩ := blk2 bt; obtain ⟨u0, u1, uf0, uf1, ul⟩ := blk2 bu; obtain ⟨c0, c1, cf0, cf1, cl⟩ := blk2 bf; have BT := Lib.hid bt; have BU := Lib.hid bu; have BF := Lib.hid bf; have HR := Lib.hid R4.below; clear bt bu bf R4 G4))
    all_goals go_wp2_with fail
    all_goals go_meet
    all_goals exact dfCut_mk x0 x1 z0 z1 BT.out BU.out HR.out
  case rest =>
    obtain ⟨rfl, p2, q2, hpq, bk, bk2, hb⟩ := hcut
    obtain ⟨k0, k1, -, -, -⟩ := blk2 bk
    obtain ⟨k2, k3, -, -, -⟩ := blk2 bk2
    have HB := Lib.hid hb
    clear bk bk2 hb
    go_wp2_with fail
    refine bodyPost_ret (v := .tuple #[.int .i64 n, .agg #[.int .i64 p, .int .i64 q], .agg #[.int .i64 p2, .int .i64 q2]]) (by simp [results, Tryd.results30, go_sem, k0, k1, k2, k3]) rfl ?_
    exact ⟨n, p, q, p2, q2, ⟨n0, n1⟩, ⟨⟨p0, p1⟩, ⟨q0, q1⟩⟩, hpq, rfl, HB.out⟩
end Go.Proofs.YtcgbbbcanmkcbaaDoor
