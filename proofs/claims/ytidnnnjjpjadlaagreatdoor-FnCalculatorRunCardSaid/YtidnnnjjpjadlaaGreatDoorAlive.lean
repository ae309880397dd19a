/- BitLength and the fixed answer that the laws ask for. No condition: contracts for the walks of the laws. -/
import Derived.Test.YtidnnnjjpjadlaaGreatDoorBase
import Derived.Test.YtidnnnjjpjadlaaGreatDoorShelf
namespace Go.Proofs.YtidnnnjjpjadlaaGreatDoor
open Go.ChangeShapes Go.WideShapes Go.ChangeAt Go.RowKit

set_option maxHeartbeats 400000 in
theorem bitlength_any (n : Int) (w : World) (h0 : 0 ≤ n) (h1 : n ≤ 1152921504606846976) :
    Calls Tryz.prog 42 #[.int .i64 n] w fun e w' => e = .returned (.int .i64 (Lib.bitLen n.toNat)) ∧ w = w' := by
  have hd : decide ((1152921504606846976 : Int) < n) = false := by simpa using h1
  go_enter Tryz.func42, Tryz.ntmps42
  go_wp2_with fail
  refine (Tryz.bits_Len64 _ _ (by omega) (by omega)).mono ?_
  rintro e w' ⟨rfl, rfl⟩
  go_wp2
  go_ret
  exact ⟨rfl, rfl⟩

theorem alive_any (w : World) : Calls Tryz.prog 11 #[] w fun e w' => e = .returned (.bool true) ∧ w = w' := by
  have h5 : Lib.bitLen (Int.toNat 5) = 3 := by decide
  have HP := Lib.hid (bitlength_any 5 w (by omega) (by omega))
  rw [h5] at HP
  go_enter Tryz.func11, Tryz.ntmps11
  go_wp2_with fail
  refine HP.out.mono ?_
  rintro e w' ⟨rfl, rfl⟩
  go_wp2
  go_ret
  exact ⟨rfl, rfl⟩
end Go.Proofs.YtidnnnjjpjadlaaGreatDoor
