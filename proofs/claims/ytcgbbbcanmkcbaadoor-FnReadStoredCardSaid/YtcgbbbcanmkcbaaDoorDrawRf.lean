/- Drawn formats and texts of formats. No condition: contracts for the walks of the laws. -/
import Derived.Test.YtcgbbbcanmkcbaaDoorDrawFm
import Derived.Test.YtcgbbbcanmkcbaaDoorRfP
namespace Go.Proofs.YtcgbbbcanmkcbaaDoor
open Go.ChangeShapes Go.WideShapes Go.ChangeAt Go.RowKit

theorem Rds.past {w0 w w' : World} {g N : Nat} (h : Rds w0 w g N) (hb : Below w.heap.size w w') : Rds w0 w' g N :=
  h.grown (row := none) ⟨hb.os, hb.tape, hb.output, hb.size, fun i hi _ => hb.block i hi⟩ (fun k hk => by cases hk)
def FdPost (w : World) (e : Ending) (w' : World) : Prop := ∃ p q : Int, -1 ≤ p ∧ p ≤ 17 ∧ -1 ≤ q ∧ q ≤ 17 ∧ e = .returned (.agg #[.int .i64 p, .int .i64 q]) ∧ Below w.heap.size w w'
set_option maxHeartbeats 1000000 in
theorem drawformattext_any {w : World} {a : Option Addr} {len cap : Nat} {zs : List Int} (hrow : IsRow .u8 w a len cap zs) :
    Calls Tryd.prog 15 #[.slice a len cap] w (FdPost w) := by
  have hB2 : Below w.heap.size w (w.alloc (.cells #[.int .i64 0, .int .i64 0] 25)) := (Below.refl _ w).alloc (Nat.le_refl _) _
  go_enter Tryd.func15, Tryd.ntmps15
  go_wp2_with fail
  refine (open_base hB2 hrow).mono ?_
  rintro e w1 ⟨rfl, R0, hb1⟩
  rw [World.size_alloc] at R0
  have bt := (Blk.new w 25 #[.int .i64 0, .int .i64 0]).below hb1 (by simp <;> omega)
  clear hb1 hB2 hrow
  go_wp2_with fail
  refine (l20format_any R0 (by omega) (by omega) (by omega)).mono ?_
  rintro e w2 ⟨p, q, p0, p1, q0, q1, rfl, R1, G1⟩
  have bt := bt.grown G1 (by intro e; injection e with e; first | omega | (simp at e; omega))
  obtain ⟨k0, k1, f0, f1, l0⟩ := blk2 bt
  have HT := Lib.hid bt
  have HR := Lib.hid R1.below
  clear R0 R1 G1 bt
  go_wp2_with fail
  have bk : Blk _ w.heap.size 25 #[.int .i64 p, .int .i64 q] := (HT.out.set 0 (.int .i64 p)).set 1 (.int .i64 q)
  obtain ⟨z0, z1, -, -, -⟩ := blk2 bk
  refine bodyPost_ret (v := .agg #[.int .i64 p, .int .i64 q]) (by simp [results, Tryd.results15, go_sem, z0, z1]) rfl ?_
  have hb := HR.out
  exact ⟨p, q, p0, p1, q0, q1, rfl, (by repeat' (first | (with_reducible exact Below.refl _ _) | (with_reducible assumption) | (with_reducible refine below_drewN ?_ _) | (with_reducible refine Below.drew ?_) | (with_reducible refine bl_alloc ?_ _) | (with_reducible refine bl_set ?_ ?_ _) | go_size | omega))⟩
/-- A drawn text. -/
def TxPost (w : World) (e : Ending) (w' : World) : Prop := ∃ s : ByteArray, s.size ≤ 100 ∧ e = .returned (.string s) ∧ Below w.heap.size w w'
theorem fText_size {p q : Int} (hp : -1 ≤ p) (hp2 : p ≤ 17) (hq : -1 ≤ q) (hq2 : q ≤ 17) : (sOf (fText p q)).size ≤ 9 := by
  rw [sOf_size]
  unfold fText
  split
  · rename_i h
    obtain ⟨h1, h2, h3, h4⟩ := fmtB_mk h
    have a := dec_len2 (n := p) (by omega) (by omega)
    have b := dec_len2 (n := q) (by omega) (by omega)
    simp
    omega
  · simp
set_option maxHeartbeats 4000000 in
theorem drawreadformat_any {w : World} {a : Option Addr} {len cap : Nat} {zs : List Int} (hrow : IsRow .u8 w a len cap zs) :
    Calls Tryd.prog 26 #[.slice a len cap] w (TxPost w) := by
  go_enter Tryd.func26, Tryd.ntmps26
  go_wp2_with fail
  refine (open_any hrow).mono ?_
  rintro e w0 ⟨g, rfl, R0⟩
  go_wp2_with fail
  refine (l20format_any R0 (by omega) (by omega) (by omega)).mono ?_
  rintro e w1 ⟨p, q, hp0, hp1, hq0, hq1, rfl, R1, G1⟩
  have hz := fText_size hp0 hp1 hq0 hq1
  go_wp2_with fail
  refine (ft_spec p q _).mono ?_
  rintro e w2 ⟨rfl, hb⟩
  have R2 := R1.past hb
  clear hb
  generalize sOf (fText p q) = s at *
  go_wp2_with fail
  refine (odd_any R2 (by omega) (by omega) (by omega)).mono ?_
  rintro e w3 ⟨bo, rfl, R3, G3⟩
  cases bo
  · have HR := Lib.hid R3
    clear R0 R1 R2 R3 G1 G3 hrow
    go_wp2_with fail
    go_ret
    exact ⟨s, by omega, rfl, HR.out.below⟩
  · have hz2 : (s ++ (⟨#[32]⟩ : ByteArray)).size ≤ 10 := by rw [ByteArray.size_append]; have : (⟨#[32]⟩ : ByteArray).size = 1 := rfl; omega
    go_wp2_with fail
    refine (pick_any (R3.alloc _) (by omega) (by omega) (by omega)).mono ?_
    rintro e w4 ⟨x, hx0, hx1, rfl, R4, G4⟩
    have hl := R3.lt
    have bA := (Blk.new w3 _ _).grown G4 (by intro e; injection e with e; omega)
    obtain ⟨t, ht, ct⟩ : ∃ t : ByteArray, t.size ≤ 100 ∧ w4.cell? ⟨w3.heap.size, x.toNat, none⟩ = some (.string t) := by
      rcases (by omega : x = 0 ∨ x = 1 ∨ x = 2 ∨ x = 3 ∨ x = 4 ∨ x = 5 ∨ x = 6 ∨ x = 7 ∨ x = 8 ∨ x = 9) with rfl | rfl | rfl | rfl | rfl | rfl | rfl | rfl | rfl | rfl
      all_goals first | exact ⟨_, by decide, bA.cell _⟩ | exact ⟨_, by omega, bA.cell _⟩
    have HR := Lib.hid R4
    clear R0 R1 R2 R3 R4 G1 G3 G4 hrow bA
    go_wp2_with fail
    go_ret
    exact ⟨t, ht, rfl, HR.out.below⟩
end Go.Proofs.YtcgbbbcanmkcbaaDoor
