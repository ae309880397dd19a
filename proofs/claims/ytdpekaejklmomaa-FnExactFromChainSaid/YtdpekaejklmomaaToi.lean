/- A list of the laws as one of the program. No condition: contract for the walks of the laws. -/
import Derived.Test.YtdpekaejklmomaaIntRows
import Derived.Laws.MakeOwn
namespace Go.Proofs.Ytdpekaejklmomaa
open Go.ChangeShapes Go.WideShapes Go.ChangeAt Go.RowKit

/-- A slice of numbers below block B. -/
def CodeI (w : World) (B : Nat) (a : Option Addr) (len : Nat) (zs : List Int) : Prop :=
  len = 0 ∨ ∃ (b off : Nat), a = some ⟨b, off, none⟩ ∧ b < B ∧ ∀ i, i < len → w.cell? ⟨b, off + i, none⟩ = some (.int .i64 (zs.getD i 0))
theorem codeI_of_row {w : World} {a : Option Addr} {len cap : Nat} {zs : List Int} (h : IsRow .i64 w a len cap zs) : len ≤ cap ∧ cap ≤ maxLen ∧ zs.length = cap ∧ CodeI w w.heap.size a len zs := by
  rcases h with ⟨rfl, rfl, rfl, rfl⟩ | ⟨x, rfl, h1, h2, h3, h4, h5, h6⟩
  · exact ⟨Nat.le_refl _, Nat.zero_le _, rfl, .inl rfl⟩
  · refine ⟨h1, h2, h3, ?_⟩
    rcases Nat.eq_zero_or_pos len with h0 | h0
    · exact .inl h0
    · obtain ⟨b, off, spot⟩ := x
      have hc := h4 0 (by omega)
      have hspot : spot = none := by simpa [Addr.add] using World.cell?_spot hc
      subst hspot
      refine .inr ⟨b, off, rfl, h6 (by omega), fun i hi => ?_⟩
      have hcell := h4 i (by omega)
      rw [Addr.add_lit] at hcell
      exact hcell
theorem CodeI.below {w w' : World} {B : Nat} {a : Option Addr} {len : Nat} {zs : List Int} (h : CodeI w B a len zs) (hb : Below B w w') : CodeI w' B a len zs := by
  rcases h with h | ⟨b, off, e, h1, h2⟩
  · exact .inl h
  · exact .inr ⟨b, off, e, h1, fun i hi => by rw [hb.cell (p := ⟨b, off + i, none⟩) h1]; exact h2 i hi⟩
/-- The first k taken over. -/
def tkL (zs : List Int) (len k : Nat) : List Int := zs.take k ++ List.replicate (len - k) 0
theorem tkL_len {zs : List Int} {len k : Nat} (hk : k ≤ len) (hl : len ≤ zs.length) : (tkL zs len k).length = len := by simp [tkL]; omega
theorem tkL_zero (zs : List Int) (len : Nat) : tkL zs len 0 = List.replicate len 0 := by simp [tkL]
theorem tkL_end (zs : List Int) (len : Nat) : tkL zs len len = zs.take len := by simp [tkL]
theorem tkL_step {zs : List Int} {len k : Nat} (hk : k < len) (hl : len ≤ zs.length) : (tkL zs len k).set k (zs.getD k 0) = tkL zs len (k + 1) := by
  have hz : k < zs.length := by omega
  unfold tkL
  have hlen : (zs.take k).length = k := by rw [List.length_take]; omega
  have e : zs.getD k 0 = zs[k] := by simp [hz]
  have hr : List.replicate (len - k) (0 : Int) = 0 :: List.replicate (len - (k + 1)) 0 := by
    rw [show len - k = (len - (k + 1)) + 1 by omega, List.replicate_succ]
  rw [List.set_append_right _ _ (by omega), hlen, Nat.sub_self, hr, List.set_cons_zero, e, List.take_succ_eq_append_getElem hz, List.append_assoc]
  rfl
theorem made_ints {i0 : TypeInfo} (w : World) (len : Nat) (hm : len ≤ 1048576) (hi : Try.prog.info? 3 = some i0) (hz0 : i0.zero = some (.int .i64 0)) (hz1 : i0.size = 1) (hz2 : i0.bytes = 8) :
    (Instr.makeSlice 39 (.int .i64 (len : Int)) (.int .i64 (len : Int))).run Try.prog w = .ok (.slice (some ⟨w.heap.size, 0, none⟩) len len) (w.alloc (.cells (madeCells #[.int .i64 0] len) 3)) := by
  have k := run_make (P := Try.prog) w 39 3 i0 (.int .i64 0) Try.underlying39 hi hz0 .i64 .i64 (len : Int) (len : Int) (by omega) (Int.le_refl _) (by rw [hz2]; omega) (by omega)
  rw [hz1] at k
  simp only [Int.toNat_natCast, Nat.mul_one] at k
  exact k
theorem made_list (len : Nat) : (madeCells #[Value.int .i64 0] len).toList = (List.replicate len (0 : Int)).map (Value.int .i64) := by
  refine List.ext_getElem (by simp [madeCells]) fun j h1 h2 => ?_
  simp [madeCells, Nat.mod_one]
theorem made_row (w : World) (len : Nat) (hm : len ≤ 1048576) : Row (w.alloc (.cells (madeCells #[.int .i64 0] len) 3)) w.heap.size (.slice (some ⟨w.heap.size, 0, none⟩) len len) (List.replicate len 0) := by
  have k := World.ownsRow_lit (base := w.heap.size) (e := 3) (size := 1) w (madeCells #[.int .i64 0] len) len (Nat.le_refl _) (by unfold maxLen; omega) (by rw [size_madeCells]; omega)
  unfold Row
  rw [List.length_replicate, ← made_list]
  exact k
theorem isz {w : World} {g j : Nat} {v : Value} (h : w.cell? ⟨g, j, none⟩ = some v) : g < w.heap.size := by
  rcases Nat.lt_or_ge g w.heap.size with h1 | h1
  · exact h1
  · simp [World.cell?, Array.getElem?_eq_none h1] at h
set_option maxHeartbeats 2000000 in
theorem toints_any {w : World} {a : Option Addr} {len cap : Nat} {zs : List Int} (hc : CodeI w w.heap.size a len zs) (hl : len ≤ zs.length) (hm : len ≤ 1048576) : Calls Try.prog 43 #[.slice a len cap] w (RowPost w (zs.take len)) := by
  have hmm : (len : Int) ≤ 1048576 := by omega
  obtain ⟨i0, hi, hz0, hz1, hz2⟩ := (info_parts (P := Try.prog) (e := 3) (z := .int .i64 0) (size := 1) (bytes := 8) (by kernel_rfl) : ∃ i, Try.prog.info? 3 = some i ∧ i.zero = some (.int .i64 0) ∧ i.size = 1 ∧ i.bytes = 8)
  have kmk := made_ints w len (by omega) hi hz0 hz1 hz2
  have HR := Lib.hid (made_row w len (by omega))
  have HC := Lib.hid hc
  clear hi hz0 hz1 hz2 hc
  generalize madeCells #[.int .i64 0] len = cs at *
  go_enter Try.func43, Try.ntmps43
  go_wp2_with fail
  go_loopw [4] (fun i wr => ∃ k : Nat, i = .int .i64 (k : Int) ∧ k ≤ len ∧ Row wr w.heap.size (.slice (some ⟨w.heap.size, 0, none⟩) len len) (tkL zs len k) ∧ Below w.heap.size w wr) (fun i _ => len - (RowKit.intOf i).toNat)
  case atStart => exact ⟨0, rfl, Nat.zero_le _, by rw [tkL_zero]; exact HR.out, (by repeat' (first | (with_reducible exact Below.refl _ _) | (with_reducible assumption) | (with_reducible refine below_drewN ?_ _) | (with_reducible refine Below.drew ?_) | (with_reducible refine bl_alloc ?_ _) | (with_reducible refine bl_set ?_ ?_ _) | go_size | omega))⟩
  case round =>
    obtain ⟨k, rfl, hk, hr, hbl⟩ := hrel
    have HBL := Lib.hid hbl
    rcases Nat.lt_or_ge k len with hlt | hge
    · have hki : (k : Int) < (len : Int) := by omega
      obtain ⟨b, off, rfl, hb, hcell⟩ : ∃ (b off : Nat), a = some ⟨b, off, none⟩ ∧ b < w.heap.size ∧ ∀ i, i < len → w.cell? ⟨b, off + i, none⟩ = some (.int .i64 (zs.getD i 0)) := by
        rcases HC.out with h | h
        · omega
        · exact h
      have ca : wr.cell? ⟨b, off + k, none⟩ = some (.int .i64 (zs.getD k 0)) := by rw [hbl.cell (p := ⟨b, off + k, none⟩) hb]; exact hcell k hlt
      have hll := tkL_len (zs := zs) hk hl
      obtain ⟨ao', cap', e, -, -, ho⟩ := hr.open_
      rw [hll] at ho e
      simp only [Value.slice.injEq, true_and] at e
      obtain ⟨rfl, rfl⟩ := e
      obtain ⟨g, e2, cA, fA⟩ := ho (by omega)
      injection e2 with e2
      injection e2 with e2
      subst e2
      have cg := cA k (by omega)
      have fg := fA k
      have hput := hr.put hll.symm k (zs.getD k 0)
      rw [tkL_step hlt hl] at hput
      have hwz : w.heap.size < wr.heap.size := isz cg
      have R1 := Lib.hid hput.1
      have B1 := Lib.hid (hbl.setCell (p := ⟨w.heap.size, k, none⟩) (Nat.le_refl _) (.int .i64 (zs.getD k 0)))
      clear cA fA ho hput hr hbl hcell hll
      generalize zs.getD k 0 = z at *
      go_wp2_with fail
      go_roundw
      case rel => exact ⟨k + 1, by go_num, by omega, R1.out, B1.out⟩
      case measure => simp [RowKit.intOf]; omega
    · have e : k = len := by omega
      subst e
      rw [tkL_end] at hr
      have R1 := Lib.hid hr
      clear hr hbl
      go_wp2_with fail
      go_ret
      exact ⟨_, rfl, R1.out, HBL.out⟩
end Go.Proofs.Ytdpekaejklmomaa
