/- The text of a mark; rows of texts compared, sized. No condition: contracts for the walks of the laws. -/
import Derived.Test.YtidnnnjjpjadlaaGreatDoorRowS
import Derived.Test.YtidnnnjjpjadlaaGreatDoorTxt
namespace Go.Proofs.YtidnnnjjpjadlaaGreatDoor
open Go.ChangeShapes Go.WideShapes Go.ChangeAt Go.RowKit

def decZ (n : Int) : List UInt8 := if n = 0 then [] else dec n
theorem decZ_step {n : Int} (h : 0 < n) : decZ n = decZ (n / 10) ++ [UInt8.ofNat (48 + n % 10).toNat] := by
  unfold decZ
  rw [if_neg (by omega)]
  by_cases h9 : n ≤ 9
  · rw [if_pos (by omega), dec_one (by omega) h9]; rfl
  · rw [if_neg (by omega), dec_more (by omega)]
/-- The text of a mark. -/
def mkT (m : Int) : ByteArray := ⟨#[109]⟩ ++ sOf (dec m)
set_option maxHeartbeats 2000000 in
theorem mt_any (m : Int) (w : World) (h1 : 1 ≤ m) (h2 : m ≤ 1000000000) : Calls Tryz.prog 49 #[.int .i64 m] w fun e w' => e = .returned (.string (mkT m)) ∧ Below w.heap.size w w' := by
  go_enter Tryz.func49, Tryz.ntmps49
  go_wp2
  go_loopw [0, 3] (fun i s wr => ∃ (n : Int) (u : List UInt8), i = .int .i64 n ∧ s = .string (sOf u) ∧ 0 ≤ n ∧ n ≤ m ∧ u.length + n.toNat ≤ m.toNat ∧ Hid (decZ n ++ u = dec m) ∧ Below w.heap.size w wr) (fun i _ _ => (RowKit.intOf i).toNat)
  case atStart => exact ⟨m, [], rfl, rfl, by omega, by omega, by simp, Lib.hid (by unfold decZ; rw [if_neg (by omega)]; simp), (by repeat' (first | (with_reducible exact Below.refl _ _) | (with_reducible assumption) | (with_reducible refine below_drewN ?_ _) | (with_reducible refine Below.drew ?_) | (with_reducible refine bl_alloc ?_ _) | (with_reducible refine bl_set ?_ ?_ _) | go_size | omega))⟩
  case round =>
    obtain ⟨n, u, rfl, rfl, hn0, hnm, hu, HD, hbl⟩ := hrel
    have HBL := Lib.hid hbl
    by_cases hp : 0 < n
    · have kc := one_byte wr (48 + n % 10) wr.heap.size rfl
      have hz : ¬ 9223372036854775807 < (strOfNums [48 + n % 10]).size + (sOf u).size := by rw [snum, sOf_size, sOf_size]; simp; omega
      have HS := Lib.hid (decZ_step hp)
      have hmod : 0 ≤ n % 10 ∧ n % 10 ≤ 9 := by omega
      clear hbl
      go_wp2
      go_roundw
      case rel => exact ⟨n / 10, [UInt8.ofNat (48 + n % 10).toNat] ++ u, by first | rfl | go_num, by rw [snum, sOf_app], by omega, by omega, by simp; omega, Lib.hid (by rw [← HD.out, HS.out, List.append_assoc]), by have hb := HBL.out; exact (by repeat' (first | (with_reducible exact Below.refl _ _) | (with_reducible assumption) | (with_reducible refine below_drewN ?_ _) | (with_reducible refine Below.drew ?_) | (with_reducible refine bl_alloc ?_ _) | (with_reducible refine bl_set ?_ ?_ _) | go_size | omega))⟩
      case measure => simp [RowKit.intOf]; omega
    · obtain rfl : n = 0 := by omega
      have hz : ¬ 9223372036854775807 < (⟨#[109]⟩ : ByteArray).size + (sOf u).size := by rw [sOf_size]; have : (⟨#[109]⟩ : ByteArray).size = 1 := rfl; omega
      have HM : Hid (u = dec m) := Lib.hid (by have := HD.out; unfold decZ at this; simpa using this)
      clear hbl HD
      go_wp2
      go_ret
      exact ⟨by rw [HM.out]; rfl, HBL.out⟩
set_option maxHeartbeats 1000000 in
theorem eqstr_any {w : World} {a a2 : Option Addr} {c1 c2 : Nat} {xs : List ByteArray} (h1 : RdT w a xs) (h2 : RdT w a2 xs) (hm : (xs.length : Int) ≤ 1000000000) : Calls Tryz.prog 21 #[.slice a xs.length c1, .slice a2 xs.length c2] w fun e w' => e = .returned (.bool true) ∧ ∃ q, w' = w.drewN q := by
  generalize hn : xs.length = n at *
  go_enter Tryz.func21, Tryz.ntmps21
  go_wp2
  go_loopw [5] (fun i wr => ∃ k q : Nat, i = .int .i64 k ∧ k ≤ n ∧ wr = w.drewN q) (fun i _ => n - (RowKit.intOf i).toNat)
  case atStart => exact ⟨0, 0, rfl, Nat.zero_le _, rfl⟩
  case round =>
    obtain ⟨k, q, rfl, hk, rfl⟩ := hrel
    rcases Nat.lt_or_ge k n with hlt | hge
    · obtain ⟨x, rfl, -, ca⟩ := h1 k (by omega)
      obtain ⟨y, rfl, -, cb⟩ := h2 k (by omega)
      have hki : (k : Int) < (n : Int) := by omega
      clear h1 h2
      go_wp2_with fail
      go_quiet (fail)
      go_wp2
      go_roundw
      case rel => exact ⟨k + 1, q + nq, by go_num, by omega, by first | rfl | exact World.drewN_drewN ..⟩
      case measure => simp [RowKit.intOf]; omega
    · have e : k = n := by omega
      subst e
      clear h1 h2
      go_wp2
      go_ret
      exact ⟨rfl, q, rfl⟩
end Go.Proofs.YtidnnnjjpjadlaaGreatDoor
