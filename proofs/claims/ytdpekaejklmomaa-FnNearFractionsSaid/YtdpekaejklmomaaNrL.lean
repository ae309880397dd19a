/- Rows of fractions: compared, marked, held. No condition: contracts for the walks of the laws. -/
import Derived.Test.YtdpekaejklmomaaRow2
namespace Go.Proofs.Ytdpekaejklmomaa
open Go.ChangeShapes Go.WideShapes Go.ChangeAt Go.RowKit

attribute [local go_sem] alloc_drewN' setCell_drewN'

theorem quietC {P : Program} {C : World → Prop} {id : Nat} {Q : Exit → Act → World → Prop} {a : Act} {w : World} {l : List Oper} (hm : P.follows .mixedOrders = true) (hB : Region.lexB .any l.toArray = true) (hC : C { w with drawn := w.drawn + 1 })
    (h : wpQuiet P l.toArray C (fun a' => ∀ w', C w' → Q .normal a' w') l a) : (Code.region id l.toArray true).wp P Q a w :=
  wp_region_quiet (C := C) hm hB hC (by simpa using h)
theorem row2_cells {w : World} {base g n cap k : Nat} {zs : List Int} (h : Row2 w base (.slice (some ⟨g, 0, none⟩) n cap) n zs) (hk : k < n) : w.cell? ⟨g, k * 2, none⟩ = some (.int .i64 (zs.getD (k * 2) 0)) ∧ w.cell? ⟨g, k * 2 + 1, none⟩ = some (.int .i64 (zs.getD (k * 2 + 1) 0)) := by
  obtain ⟨ao, cap', e, -, -, ho⟩ := h.open_
  simp only [Value.slice.injEq, true_and] at e
  obtain ⟨rfl, rfl⟩ := e
  obtain ⟨g', e2, cA, -⟩ := ho (by omega)
  injection e2 with e2
  injection e2 with e2
  subst e2
  exact ⟨cA _ (by omega), cA _ (by omega)⟩
theorem cell_lt {w : World} {p : Addr} {v : Value} (h : w.cell? p = some v) : p.block < w.heap.size := by
  rcases Nat.lt_or_ge p.block w.heap.size with h1 | h1
  · exact h1
  · simp [World.cell?, Array.getElem?_eq_none h1] at h
/-- The cells that one round reads. -/
structure InE (w : World) (g g2 k : Nat) (x y : Int) (w' : World) : Prop where
  bel : Below w.heap.size w w'
  a0 : w'.cell? ⟨g, k * 2, none⟩ = some (.int .i64 x)
  a1 : w'.cell? ⟨g, k * 2 + 1, none⟩ = some (.int .i64 y)
  b0 : w'.cell? ⟨g2, k * 2, none⟩ = some (.int .i64 x)
  b1 : w'.cell? ⟨g2, k * 2 + 1, none⟩ = some (.int .i64 y)
theorem InE.below {w w1 w2 : World} {g g2 k : Nat} {x y : Int} (h : InE w g g2 k x y w1) (hb : Below w1.heap.size w1 w2) : InE w g g2 k x y w2 :=
  ⟨bl_behind hb h.bel, (hb.cell (cell_lt h.a0)).trans h.a0, (hb.cell (cell_lt h.a1)).trans h.a1, (hb.cell (cell_lt h.b0)).trans h.b0, (hb.cell (cell_lt h.b1)).trans h.b1⟩
theorem InE.drew {w w1 : World} {g g2 k : Nat} {x y : Int} (h : InE w g g2 k x y w1) : InE w g g2 k x y { w1 with drawn := w1.drawn + 1 } := ⟨h.bel.drew, h.a0, h.a1, h.b0, h.b1⟩
set_option maxHeartbeats 1000000 in
theorem eqone_any (x y : Int) (w : World) : Calls Try.prog 44 #[.agg #[.int .i64 x, .int .i64 y], .agg #[.int .i64 x, .int .i64 y]] w fun e w' => e = .returned (.bool true) ∧ Below w.heap.size w w' := by
  go_enter Try.func44, Try.ntmps44
  go_wp2_with fail
  go_ret
  exact ⟨rfl, (by repeat' (first | (with_reducible exact Below.refl _ _) | (with_reducible assumption) | (with_reducible refine below_drewN ?_ _) | (with_reducible refine Below.drew ?_) | (with_reducible refine bl_alloc ?_ _) | (with_reducible refine bl_set ?_ ?_ _) | go_size | omega))⟩
set_option maxHeartbeats 4000000 in
theorem eqfr_any {w : World} {b1 b2 n : Nat} {v u : Value} {zs : List Int} (h1 : Row2 w b1 v n zs) (h2 : Row2 w b2 u n zs) : Calls Try.prog 38 #[v, u] w fun e w' => e = .returned (.bool true) ∧ Below w.heap.size w w' := by
  obtain ⟨ao, cap, rfl, hc, hlc, hA⟩ := h1.open_
  obtain ⟨bo, cap2, rfl, hc2, hlc2, hB⟩ := h2.open_
  have hm : (n : Int) ≤ 9223372036854775807 := by unfold maxLen at hc; omega
  have H1 := Lib.hid h1
  have H2 := Lib.hid h2
  clear h1 h2
  go_enter Try.func38, Try.ntmps38
  go_wp2_with fail
  go_loopw [5] (fun i wr => ∃ k : Nat, i = .int .i64 k ∧ k ≤ n ∧ Below w.heap.size w wr) (fun i _ => n - (RowKit.intOf i).toNat)
  case atStart => exact ⟨0, rfl, Nat.zero_le _, (by repeat' (first | (with_reducible exact Below.refl _ _) | (with_reducible assumption) | (with_reducible refine below_drewN ?_ _) | (with_reducible refine Below.drew ?_) | (with_reducible refine bl_alloc ?_ _) | (with_reducible refine bl_set ?_ ?_ _) | go_size | omega))⟩
  case round =>
    obtain ⟨k, rfl, hk, hbl⟩ := hrel
    rcases Nat.lt_or_ge k n with hlt | hge
    · obtain ⟨g, rfl, -, -⟩ := hA (by omega)
      obtain ⟨g2, rfl, -, -⟩ := hB (by omega)
      obtain ⟨ca0, ca1⟩ := row2_cells (H1.out.below hbl) hlt
      obtain ⟨cb0, cb1⟩ := row2_cells (H2.out.below hbl) hlt
      have hki : (k : Int) < (n : Int) := by omega
      clear hA hB
      generalize zs.getD (k * 2) 0 = x at *
      generalize zs.getD (k * 2 + 1) 0 = y at *
      have hC : InE w g g2 k x y wr := ⟨hbl, ca0, ca1, cb0, cb1⟩
      have HC := Lib.hid hC
      clear hC hbl ca0 ca1 cb0 cb1 H1 H2
      go_wp2_with fail
      refine quietC (C := InE w g g2 k x y) (by kernel_rfl) (by kernel_rfl) HC.out.drew ?_
      repeat
        (refine wpQuiet_step (fun K hK => ?_)
         go_simp
         first
           | (refine hK _ ?_; clear hK K)
           | (apply Exists.intro
              refine ⟨fun w' hw' => ?_, hK _ ?_⟩
              first
                | (go_at_call 44; with_reducible refine Calls.mono (eqone_any x y _) ?_; rintro e w2 ⟨rfl, hb2⟩; exact ⟨rfl, hw'.below hb2⟩)
                | (obtain ⟨-, c0, c1, d0, d1⟩ := hw'; go_simp; rfl)
              clear hK K))
      refine wpQuiet_nil ?_
      intro w2 hw2
      have HB2 := Lib.hid hw2.bel
      clear hw2 HC
      go_wp2_with fail
      go_roundw
      case rel => exact ⟨k + 1, by go_num, by omega, HB2.out⟩
      case measure => simp [RowKit.intOf]; omega
    · have e : k = n := by omega
      subst e
      clear hA hB
      go_wp2_with fail
      go_ret
      exact ⟨rfl, hbl⟩
theorem setMarks_two (zs : List Int) (m : Int) (k : Nat) : ((setMarks zs m (k * 2)).set (k * 2) (m + (k : Int) * 2)).set (k * 2 + 1) (m + (k : Int) * 2 + 1) = setMarks zs m ((k + 1) * 2) := by
  rw [show (k + 1) * 2 = k * 2 + 1 + 1 by omega, setMarks, setMarks, show m + ((k * 2 : Nat) : Int) = m + (k : Int) * 2 by omega, show m + ((k * 2 + 1 : Nat) : Int) = m + (k : Int) * 2 + 1 by omega]
set_option maxHeartbeats 2000000 in
theorem markfr_any {w : World} {base n : Nat} {v : Value} {zs : List Int} (h : Row2 w base v n zs) (m : Int) (hm0 : -1000000000 ≤ m) (hm1 : m ≤ 1000000000) (hl : n ≤ 1000000) : Calls Try.prog 39 #[v, .int .i64 m] w fun e w' => e = .returned (.int .i64 (m + (n : Int) * 2)) ∧ Row2 w' base v n (marks m (n * 2)) ∧ w.grownBy w' v.ownBlock := by
  obtain ⟨ao, cap, rfl, hc, hlc, -⟩ := h.open_
  have HR := Lib.hid h
  have HE := Lib.hid (setMarks_all zs m)
  have HLN := Lib.hid h.len
  have hm : (n : Int) ≤ 1000000 := by omega
  clear h
  go_enter Try.func39, Try.ntmps39
  go_wp2_with fail
  go_loopw [5, 1] (fun i j wr => ∃ k : Nat, i = .int .i64 k ∧ j = .int .i64 (m + (k : Int) * 2) ∧ k ≤ n ∧ Row2 wr base (.slice ao n cap) n (setMarks zs m (k * 2)) ∧ w.grownBy wr (Value.slice ao n cap).ownBlock) (fun i _ _ => n - (RowKit.intOf i).toNat)
  case atStart => exact ⟨0, rfl, by simp, Nat.zero_le _, HR.out, World.grownBy.refl _ _⟩
  case round =>
    obtain ⟨k, rfl, rfl, hk, hr, hg⟩ := hrel
    rcases Nat.lt_or_ge k n with hlt | hge
    · obtain ⟨ao', cap', e, -, -, ho⟩ := hr.open_
      simp only [Value.slice.injEq, true_and] at e
      obtain ⟨rfl, rfl⟩ := e
      obtain ⟨g, rfl, cA, fA⟩ := ho (by omega)
      have c0 := cA (k * 2) (by omega)
      have c1 := cA (k * 2 + 1) (by omega)
      have f0 := fA (k * 2)
      have f1 := fA (k * 2 + 1)
      have p1 := hr.put (k * 2) (m + (k : Int) * 2)
      have p2 := p1.1.put (k * 2 + 1) (m + (k : Int) * 2 + 1)
      have r2 := p2.1
      rw [setMarks_two] at r2
      have R1 := Lib.hid r2
      have G1 := Lib.hid (grown_self (grown_self hg p1.2) p2.2)
      have hki : (k : Int) < (n : Int) := by omega
      clear cA fA ho p1 p2 r2 hr hg
      go_wp2_with fail
      go_roundw
      case rel => exact ⟨k + 1, by go_num, congrArg (Value.int .i64) (by omega), by omega, R1.out, G1.out⟩
      case measure => simp [RowKit.intOf]; omega
    · have e : k = n := by omega
      subst e
      rw [← HLN.out, HE.out, HLN.out] at hr
      have R1 := Lib.hid hr
      have G1 := Lib.hid hg
      clear hr hg
      go_wp2_with fail
      go_ret
      exact ⟨rfl, R1.out, G1.out⟩
set_option maxHeartbeats 2000000 in
theorem heldfr_any {w : World} {base n : Nat} {v : Value} {m : Int} (h : Row2 w base v n (marks m (n * 2))) (hm0 : -1000000000 ≤ m) (hm1 : m ≤ 1000000000) (hl : n ≤ 1000000) : Calls Try.prog 40 #[v, .int .i64 m] w fun e w' => e = .returned (.int .i64 (m + (n : Int) * 2)) ∧ w = w' := by
  obtain ⟨ao, cap, rfl, hc, hlc, ho⟩ := h.open_
  have hm : (n : Int) ≤ 1000000 := by omega
  clear h
  go_enter Try.func40, Try.ntmps40
  go_wp2_with fail
  go_loop [5, 1] (fun i j => ∃ k : Nat, i = .int .i64 k ∧ j = .int .i64 (m + (k : Int) * 2) ∧ k ≤ n) (fun i _ => n - (RowKit.intOf i).toNat)
  case atStart => exact ⟨0, rfl, by simp, Nat.zero_le _⟩
  case round =>
    obtain ⟨k, rfl, rfl, hk⟩ := hrel
    rcases Nat.lt_or_ge k n with hlt | hge
    · obtain ⟨g, rfl, cA, fA⟩ := ho (by omega)
      have c0 := cA (k * 2) (by omega)
      have c1 := cA (k * 2 + 1) (by omega)
      rw [(marks_get (by omega)).trans (show m + ((k * 2 : Nat) : Int) = m + (k : Int) * 2 by omega)] at c0
      rw [(marks_get (by omega)).trans (show m + ((k * 2 + 1 : Nat) : Int) = m + (k : Int) * 2 + 1 by omega)] at c1
      have hki : (k : Int) < (n : Int) := by omega
      clear cA fA ho
      go_wp2_with fail
      go_round
      case rel => exact ⟨k + 1, by go_num, congrArg (Value.int .i64) (by omega), by omega⟩
      case measure => simp [RowKit.intOf]; omega
    · have e : k = n := by omega
      subst e
      clear ho
      go_wp2_with fail
      go_ret
      exact ⟨rfl, rfl⟩
end Go.Proofs.Ytdpekaejklmomaa
