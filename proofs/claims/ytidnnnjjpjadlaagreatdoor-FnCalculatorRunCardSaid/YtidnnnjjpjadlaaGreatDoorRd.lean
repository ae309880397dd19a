/- Digits are read. No condition. -/
import Derived.Test.YtidnnnjjpjadlaaGreatDoorTxt
import Derived.Lib.ConvBytes
namespace Go.Proofs.YtidnnnjjpjadlaaGreatDoor
open Go.ChangeShapes Go.WideShapes Go.ChangeAt Go.RowKit

/-- What readDigits returns: the number and whether there are digits alone. -/
def rdN : List UInt8 → Int → Int × Bool
  | [], n => (n, true)
  | b :: t, n => if b.toNat < 48 ∨ 57 < b.toNat then (0, false) else rdN t (10 * n + (b.toNat - 48))
theorem below_bytes (w : World) (e : TypeId) (s : ByteArray) : Below w.heap.size w (Lib.bytesWorld w e s) :=
  ⟨rfl, rfl, rfl, by rw [Lib.bytesWorld_size]; omega, fun i hi => Lib.bytesWorld_at_old w e s i hi⟩
theorem rdN_step {l : List UInt8} {k : Nat} {x : Int} (h : k < l.length) : rdN (l.drop k) x = if (l.getD k 0).toNat < 48 ∨ 57 < (l.getD k 0).toNat then (0, false) else rdN (l.drop (k + 1)) (10 * x + ((l.getD k 0).toNat - 48)) := by
  have e : l.getD k 0 = l[k] := by simp [h]
  rw [List.drop_eq_getElem_cons h, e]
  rfl
theorem rdN_end (l : List UInt8) (x : Int) : rdN (l.drop l.length) x = (x, true) := by simp [rdN]
theorem ten_step {k : Nat} {x d : Int} (h0 : 0 ≤ x) (hx : x + 1 ≤ 10 ^ k) (hk : k < 17) (h1 : 0 ≤ d) (h2 : d ≤ 9) : 0 ≤ 10 * x + d ∧ 10 * x + d + 1 ≤ 10 ^ (k + 1) ∧ 10 * x + d ≤ 99999999999999999 := by
  have e : (10 : Int) ^ (k + 1) = 10 * 10 ^ k := by rw [Int.pow_succ]; omega
  have e1 : (10 : Nat) ^ k ≤ 10 ^ 16 := Nat.pow_le_pow_right (by omega) (by omega)
  have e2 : ((10 ^ k : Nat) : Int) = (10 : Int) ^ k := by rw [Int.natCast_pow]; rfl
  rw [e]
  generalize (10 : Int) ^ k = y at *
  generalize (10 : Nat) ^ k = z at *
  omega
theorem ret_rd {a b : Int} {x y : Bool} (h : (a, x) = (b, y)) : Ending.returned (.tuple #[.int .i64 a, .bool x]) = Ending.returned (.tuple #[.int .i64 b, .bool y]) := by cases h; rfl
set_option maxRecDepth 4000 in
set_option maxHeartbeats 1000000 in
theorem rd_impl (s : ByteArray) (w : World) (hs : s.size ≤ 17) : Calls Tryz.prog 85 #[.string s] w fun e w' => e = .returned (.tuple #[.int .i64 (rdN s.data.toList 0).1, .bool (rdN s.data.toList 0).2]) ∧ Below w.heap.size w w' := by
  have kc := Lib.run_convert_string_bytes (P := Tryz.prog) w 9 22 5 s Tryz.underlying9 Tryz.underlying22 Tryz.underlying5
  have hl : s.data.toList.length = s.size := by simp
  have hb := below_bytes w 5 s
  go_enter Tryz.func85, Tryz.ntmps85
  go_wp2
  go_loopw [4, 10] (fun n i wr => ∃ (x : Int) (k : Nat), n = .int .i64 x ∧ i = .int .i64 k ∧ wr = Lib.bytesWorld w 5 s ∧ k ≤ s.size ∧ 0 ≤ x ∧ Hid (x + 1 ≤ 10 ^ k) ∧ Hid (rdN s.data.toList 0 = rdN (s.data.toList.drop k) x)) (fun _ i _ => s.size - (RowKit.intOf i).toNat)
  case atStart => exact ⟨0, 0, rfl, rfl, rfl, by omega, by omega, Lib.hid (by simp), Lib.hid (by simp)⟩
  case round =>
    obtain ⟨x, k, rfl, rfl, rfl, hk, x0, hx, HR⟩ := hrel
    by_cases he : k = s.size
    · have HE := Lib.hid (HR.out.trans (show rdN (s.data.toList.drop k) x = (x, true) by rw [he, ← hl]; exact rdN_end _ _))
      go_wp2
      refine bodyPost_ret (v := .tuple #[.int .i64 x, .bool true]) (by simp [results, Tryz.results85, go_sem]) rfl ?_
      exact ⟨ret_rd (by rw [HE.out]), hb⟩
    · have hc := Lib.bytesWorld_cell w 5 s k (by omega)
      have hst := rdN_step (l := s.data.toList) (k := k) (x := x) (by omega)
      have hv : (s.data.toList.getD k 0).toNat < 256 := (s.data.toList.getD k 0).toNat_lt
      generalize hd : (s.data.toList.getD k 0).toNat = v at *
      clear hd hl hv
      have hk' : k < s.size := by omega
      rcases (by omega : v < 48 ∨ 57 < v ∨ (48 ≤ v ∧ v ≤ 57)) with h | h | ⟨h, h'⟩
      · have HE := Lib.hid (HR.out.trans (hst.trans (if_pos (Or.inl h))))
        clear hst
        go_wp2
        refine bodyPost_ret (v := .tuple #[.int .i64 0, .bool false]) (by simp [results, Tryz.results85, go_sem]) rfl ?_
        exact ⟨ret_rd (by rw [HE.out]), hb⟩
      · have HE := Lib.hid (HR.out.trans (hst.trans (if_pos (Or.inr h))))
        clear hst
        go_wp2
        refine bodyPost_ret (v := .tuple #[.int .i64 0, .bool false]) (by simp [results, Tryz.results85, go_sem]) rfl ?_
        exact ⟨ret_rd (by rw [HE.out]), hb⟩
      · have HE := Lib.hid (HR.out.trans (hst.trans (if_neg (by omega))))
        clear hst
        obtain ⟨t1, t2, t3⟩ := ten_step (k := k) (x := x) (d := v - 48) x0 hx.out (by omega) (by omega) (by omega)
        have T2 := Lib.hid t2
        clear t2
        go_wp2
        go_roundw
        case rel => exact ⟨10 * x + (v - 48), k + 1, by first | trivial | rfl | simp, by first | trivial | rfl | (simp; done) | (simp; omega), by first | trivial | rfl | simp, by omega, t1, T2, HE⟩
        case measure => simp only [RowKit.intOf]; omega
end Go.Proofs.YtidnnnjjpjadlaaGreatDoor
