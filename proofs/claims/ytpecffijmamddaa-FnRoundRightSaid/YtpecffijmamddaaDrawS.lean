/- The drawing functions of the law on roots. No condition: contracts for the walks of the laws. -/
import Derived.Test.YtpecffijmamddaaDrawW
import Derived.Test.YtpecffijmamddaaSqrt
namespace Go.Proofs.Ytpecffijmamddaa
open Go.ChangeShapes Go.WideShapes Go.ChangeAt Go.RowKit


/-- What a function leaves that draws one number. -/
def OnePost (lo hi : Int) (w : World) (e : Ending) (w' : World) : Prop := ∃ x : Int, lo ≤ x ∧ x ≤ hi ∧ e = .returned (.int .i64 x) ∧ Below w.heap.size w w'

theorem shl_bd {x k : Int} (h0 : 0 ≤ x) (h1 : x < 256) (k0 : 0 ≤ k) (k1 : k < 22) : 0 ≤ x * (2 : Int) ^ k.toNat ∧ x * (2 : Int) ^ k.toNat ≤ 534773760 := by
  have p := pow_bd (k := k.toNat) (by omega)
  have e1 : (2 : Nat) ^ k.toNat ≤ 2 ^ 21 := Nat.pow_le_pow_right (by omega) (by omega)
  have e2 : ((2 ^ k.toNat : Nat) : Int) = (2 : Int) ^ k.toNat := by rw [Int.natCast_pow]; rfl
  refine ⟨Int.mul_nonneg h0 (by omega), ?_⟩
  have := Int.mul_le_mul (show x ≤ 255 by omega) (show (2 : Int) ^ k.toNat ≤ 2097152 by omega) (by omega) (by omega)
  omega
set_option maxHeartbeats 1000000 in
theorem l20square_any {w0 w : World} {g N : Nat} (R0 : Rds w0 w g N) (hN : N ≤ 990000) :
    Calls Try.prog 54 #[.pointer (some ⟨g, 0, none⟩)] w (IntPost w0 w g (N + 13) (-1152921504606846976) 1152921504606846976) := by
  have hfin : ∀ (x : Int) (w' : World), -1152921504606846976 ≤ x → x ≤ 1152921504606846976 → Rds w0 w' g (N + 13) → w.grownBy w' (some g) → IntPost w0 w g (N + 13) (-1152921504606846976) 1152921504606846976 (.returned (.int .i64 x)) w' := fun x w' h1 h2 h3 h4 => ⟨x, h1, h2, rfl, h3, h4⟩
  have HF := Lib.hid hfin
  clear hfin
  go_enter Try.func54, Try.ntmps54
  go_wp2_with fail
  refine (pick_any R0 (by omega) (by omega) (by omega)).mono ?_
  rintro e w1 ⟨x1, hx10, hx11, rfl, R1, G1⟩
  go_wp2_with fail
  refine (pick_any R1 (by omega) (by omega) (by omega)).mono ?_
  rintro e w2 ⟨x2, hx20, hx21, rfl, R2, G2⟩
  go_wp2_with fail
  refine (pick_any R2 (by omega) (by omega) (by omega)).mono ?_
  rintro e w3 ⟨x3, hx30, hx31, rfl, R3, G3⟩
  obtain ⟨s0, s1⟩ := shl_bd hx20 hx21 hx30 hx31
  have hw : wrap64 (x2 * (2 : Int) ^ x3.toNat) = x2 * (2 : Int) ^ x3.toNat := w64 (by omega) (by omega)
  have nn0 : 0 ≤ (x1 + x2 * (2 : Int) ^ x3.toNat) * (x1 + x2 * (2 : Int) ^ x3.toNat) := Int.mul_nonneg (by omega) (by omega)
  have nn1 : (x1 + x2 * (2 : Int) ^ x3.toNat) * (x1 + x2 * (2 : Int) ^ x3.toNat) ≤ 576460752303423488 := by
    have := sq_mono (show 0 ≤ (x1 + x2 * (2 : Int) ^ x3.toNat) by omega) (show (x1 + x2 * (2 : Int) ^ x3.toNat) ≤ 534774015 by omega)
    omega
  go_wp2_with fail
  refine (l20work_any R3 (by omega)).mono ?_
  rintro e w4 ⟨x4, hx40, hx41, rfl, R4, G4⟩
  go_wp2_with fail
  refine (pick_any (R4.alloc _) (by omega) (by omega) (by omega)).mono ?_
  rintro e w5 ⟨x5, hx50, hx51, rfl, R5, G5⟩
  have hlt := R4.lt
  have bA := (Blk.new w4 _ _).grown G5 (by intro e; injection e with e; omega)
  obtain ⟨u, hu0, hu1, cu⟩ := draw_cell (l := [(x1 + x2 * (2 : Int) ^ x3.toNat) * (x1 + x2 * (2 : Int) ^ x3.toNat), (x1 + x2 * (2 : Int) ^ x3.toNat) * (x1 + x2 * (2 : Int) ^ x3.toNat) - 1, (x1 + x2 * (2 : Int) ^ x3.toNat) * (x1 + x2 * (2 : Int) ^ x3.toNat) + 1, (x1 + x2 * (2 : Int) ^ x3.toNat) * (x1 + x2 * (2 : Int) ^ x3.toNat) + (x1 + x2 * (2 : Int) ^ x3.toNat), (x1 + x2 * (2 : Int) ^ x3.toNat) * (x1 + x2 * (2 : Int) ^ x3.toNat) + (x1 + x2 * (2 : Int) ^ x3.toNat) + 1, x4]) (lo := -1152921504606846976) (hi := 1152921504606846976) bA (by simp only [List.mem_cons, List.not_mem_nil, or_false]; rintro y hy; omega) hx50 (by simpa using hx51)
  have HG := Lib.hid (grownBy_trans (grownBy_alloc (grownBy_trans (grownBy_trans (grownBy_trans G1 G2) G3) G4) _) G5)
  have HR := Lib.hid R5
  clear bA R0 R1 R2 R3 R4 R5 G1 G2 G3 G4 G5
  go_wp2
  go_ret
  exact HF.out _ _ hu0 hu1 (HR.out.mono (by omega)) HG.out

set_option maxHeartbeats 1000000 in
theorem drawsqrtfloor_any {w : World} {a : Option Addr} {len cap : Nat} {zs : List Int} (hrow : IsRow .u8 w a len cap zs) :
    Calls Try.prog 21 #[.slice a len cap] w (OnePost (-1152921504606846976) 1152921504606846977 w) := by
  go_enter Try.func21, Try.ntmps21
  go_wp2_with fail
  refine (open_any hrow).mono ?_
  rintro e w1 ⟨g, rfl, R0⟩
  go_wp2_with fail
  refine (odd_any R0 (by omega) (by omega) (by omega)).mono ?_
  rintro e w2 ⟨b, rfl, R1, G1⟩
  cases b
  · go_wp2_with fail
    refine (l20square_any R1 (by omega)).mono ?_
    rintro e w3 ⟨x, h0, h1, rfl, R2, G2⟩
    go_wp2
    go_ret
    exact ⟨x, h0, by omega, rfl, R2.below⟩
  · go_wp2
    go_ret
    exact ⟨1152921504606846977, by omega, by omega, rfl, R1.below⟩

end Go.Proofs.Ytpecffijmamddaa
