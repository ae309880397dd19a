/- Rows of texts sized, copied, marked, held. No condition: contracts for the walks of the laws. -/
import Derived.Test.YtidnnnjjpjadlaaGreatDoorStrA
namespace Go.Proofs.YtidnnnjjpjadlaaGreatDoor
open Go.ChangeShapes Go.WideShapes Go.ChangeAt Go.RowKit

def SzPost (w : World) (m : Int) (xs : List ByteArray) (e : Ending) (w' : World) : Prop := ∃ v : Int, e = .returned (.int .i64 v) ∧ (v < 0 ∨ (0 ≤ v ∧ (xs.length : Int) ≤ m ∧ ∀ j, j < xs.length → ((xs.getD j ByteArray.empty).size : Int) ≤ m)) ∧ w' = w
set_option maxHeartbeats 1000000 in
theorem sz_any {w : World} {a : Option Addr} {cap : Nat} {xs : List ByteArray} (h : RdT w a xs) (hl : (xs.length : Int) ≤ 9223372036854775807) (hs : ∀ s ∈ xs, s.size ≤ maxLen) (m : Int) (hm0 : 0 ≤ m) (hm1 : m ≤ 1048576) : Calls Tryz.prog 17 #[.slice a xs.length cap, .int .i64 m] w (SzPost w m xs) := by
  generalize hn : xs.length = n at *
  have HF := Lib.hid (fun (v : Int) (h : v < 0 ∨ (0 ≤ v ∧ (xs.length : Int) ≤ m ∧ ∀ j, j < xs.length → ((xs.getD j ByteArray.empty).size : Int) ≤ m)) => show SzPost w m xs (.returned (.int .i64 v)) w from ⟨v, rfl, h, rfl⟩)
  by_cases h0 : m - n < 0
  · clear h hs
    go_enter Tryz.func17, Tryz.ntmps17
    go_wp2
    go_ret
    exact HF.out _ (.inl (by omega))
  · have hnm : (n : Int) ≤ m := by omega
    go_enter Tryz.func17, Tryz.ntmps17
    go_wp2
    go_loopw [5, 1] (fun i j wr => ∃ (k : Nat) (v : Int), i = .int .i64 k ∧ j = .int .i64 v ∧ k ≤ n ∧ 0 ≤ v ∧ v ≤ m ∧ wr = w ∧ Hid (∀ j, j < k → ((xs.getD j ByteArray.empty).size : Int) ≤ m)) (fun i _ _ => n - (RowKit.intOf i).toNat)
    case atStart => exact ⟨0, m - n, rfl, rfl, Nat.zero_le _, by omega, by omega, by trivial, Lib.hid (fun j hj => by omega)⟩
    case round =>
      obtain ⟨k, v, rfl, rfl, hk, hv0, hv1, rfl, HJ⟩ := hrel
      rcases Nat.lt_or_ge k n with hlt | hge
      · obtain ⟨x, rfl, -, ca⟩ := h k (by omega)
        have hki : (k : Int) < (n : Int) := by omega
        have hsz : ((xs.getD k ByteArray.empty).size : Int) ≤ 9223372036854775807 := by
          have := hs _ (show xs.getD k ByteArray.empty ∈ xs by rw [List.getD_eq_getElem?_getD, List.getElem?_eq_getElem (by omega), Option.getD_some]; exact List.getElem_mem _)
          unfold maxLen at this; omega
        have HJ2 := Lib.hid (fun (h2 : ((xs.getD k ByteArray.empty).size : Int) ≤ m) => show ∀ j, j < k + 1 → ((xs.getD j ByteArray.empty).size : Int) ≤ m from fun j hj => by
          rcases (by omega : j < k ∨ j = k) with h3 | rfl
          · exact HJ.out j h3
          · exact h2)
        clear h hs HJ
        generalize xs.getD k ByteArray.empty = s at *
        by_cases hd : v - s.size < 0
        · go_wp2
          go_ret
          exact HF.out _ (.inl (by omega))
        · go_wp2
          go_roundw
          case rel => exact ⟨k + 1, v - s.size, by go_num, by first | rfl | go_num, by omega, by omega, by omega, by trivial, Lib.hid (HJ2.out (by omega))⟩
          case measure => simp [RowKit.intOf]; omega
      · have e : k = n := by omega
        subst e
        clear h hs
        go_wp2
        go_ret
        exact HF.out _ (.inr ⟨hv0, by omega, fun j hj => HJ.out j (by omega)⟩)
/-- The first k of the texts; behind them, none as yet. -/
def tkS (xs : List ByteArray) (k : Nat) : List ByteArray := xs.take k ++ List.replicate (xs.length - k) ⟨#[]⟩
theorem tkS_zero (xs : List ByteArray) : tkS xs 0 = List.replicate xs.length ⟨#[]⟩ := by simp [tkS]
theorem tkS_len {xs : List ByteArray} {k : Nat} (h : k ≤ xs.length) : (tkS xs k).length = xs.length := by simp [tkS]; omega
theorem tkS_end (xs : List ByteArray) : tkS xs xs.length = xs := by simp [tkS]
theorem tkS_step {xs : List ByteArray} {k : Nat} (h : k < xs.length) : (tkS xs k).set k (xs.getD k ByteArray.empty) = tkS xs (k + 1) := by
  unfold tkS
  have e : xs.length - k = (xs.length - (k + 1)) + 1 := by omega
  have el : (xs.take k).length = k := by simp; omega
  rw [e, List.replicate_succ, List.set_append_right _ _ (by omega), el, Nat.sub_self, List.set_cons_zero, List.take_succ_eq_append_getElem h, List.append_assoc]
  simp [List.getD_eq_getElem?_getD, h]
set_option maxHeartbeats 2000000 in
theorem tostr_any {w : World} {a : Option Addr} {cap : Nat} {xs : List ByteArray} (h : RdT w a xs) (hm : xs.length ≤ 1048576) : Calls Tryz.prog 19 #[.slice a xs.length cap] w fun e w' => e = .returned (.slice (some ⟨w.heap.size, 0, none⟩) xs.length xs.length) ∧ RowS w' w.heap.size (.slice (some ⟨w.heap.size, 0, none⟩) xs.length xs.length) xs ∧ Below w.heap.size w w' := by
  have hmm : (xs.length : Int) ≤ 1048576 := by omega
  obtain ⟨i0, hi, hz0, hz1, hz2⟩ := (info_parts (P := Tryz.prog) (e := 9) (z := .string ⟨#[]⟩) (size := 1) (bytes := 16) (by kernel_rfl) : ∃ i, Tryz.prog.info? 9 = some i ∧ i.zero = some (.string ⟨#[]⟩) ∧ i.size = 1 ∧ i.bytes = 16)
  have kmk := made_strs w xs.length (by omega) hi hz0 hz1 hz2
  have HR := Lib.hid (made_rowS w xs.length (by omega))
  have HC := Lib.hid h
  clear hi hz0 hz1 hz2 h
  generalize madeCells #[.string ⟨#[]⟩] xs.length = cs at *
  generalize hn : xs.length = n at *
  go_enter Tryz.func19, Tryz.ntmps19
  go_wp2_with fail
  go_loopw [4] (fun i wr => ∃ k : Nat, i = .int .i64 (k : Int) ∧ k ≤ n ∧ RowS wr w.heap.size (.slice (some ⟨w.heap.size, 0, none⟩) n n) (tkS xs k) ∧ Below w.heap.size w wr) (fun i _ => n - (RowKit.intOf i).toNat)
  case atStart => exact ⟨0, rfl, Nat.zero_le _, by rw [tkS_zero, hn]; exact HR.out, (by repeat' (first | (with_reducible exact Below.refl _ _) | (with_reducible assumption) | (with_reducible refine below_drewN ?_ _) | (with_reducible refine Below.drew ?_) | (with_reducible refine bl_alloc ?_ _) | (with_reducible refine bl_set ?_ ?_ _) | go_size | omega))⟩
  case round =>
    obtain ⟨k, rfl, hk, hr, hbl⟩ := hrel
    have HBL := Lib.hid hbl
    rcases Nat.lt_or_ge k n with hlt | hge
    · have hki : (k : Int) < (n : Int) := by omega
      obtain ⟨x, rfl, hx, ca⟩ := (HC.out.below hbl) k (by omega)
      have hll := tkS_len (xs := xs) (k := k) (by omega)
      obtain ⟨ao', cap', e, -, -, ho⟩ := hr.open_
      rw [hll, hn] at ho e
      simp only [Value.slice.injEq, true_and] at e
      obtain ⟨rfl, rfl⟩ := e
      obtain ⟨g, e2, cA, fA⟩ := ho (by omega)
      injection e2 with e2
      injection e2 with e2
      subst e2
      have cg := cA k (by omega)
      have fg := fA k
      have hput := hr.put (by rw [hll, hn]) k (xs.getD k ByteArray.empty)
      rw [tkS_step (by omega)] at hput
      have hwz : w.heap.size < wr.heap.size := iszS cg
      have R1 := Lib.hid hput.1
      have B1 := Lib.hid (hbl.setCell (p := ⟨w.heap.size, k, none⟩) (Nat.le_refl _) (.string (xs.getD k ByteArray.empty)))
      clear cA fA ho hput hr hbl hll
      generalize xs.getD k ByteArray.empty = z at *
      go_wp2_with fail
      go_roundw
      case rel => exact ⟨k + 1, by go_num, by omega, R1.out, B1.out⟩
      case measure => simp [RowKit.intOf]; omega
    · have e : k = n := by omega
      subst e
      have R1 := Lib.hid (show RowS wr w.heap.size (.slice (some ⟨w.heap.size, 0, none⟩) k k) xs by have := tkS_end xs; rw [hn] at this; rw [this] at hr; exact hr)
      clear hr hbl
      go_wp2_with fail
      go_ret
      exact ⟨rfl, R1.out, HBL.out⟩
end Go.Proofs.YtidnnnjjpjadlaaGreatDoor
