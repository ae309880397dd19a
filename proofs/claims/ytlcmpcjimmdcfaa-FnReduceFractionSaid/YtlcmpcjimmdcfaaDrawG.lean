/- The drawing function of the law on common parts. No condition: contracts for the walks of the laws. -/
import Derived.Test.YtlcmpcjimmdcfaaDrawW
import Derived.Test.YtlcmpcjimmdcfaaFlow5
namespace Go.Proofs.Ytlcmpcjimmdcfaa
open Go.ChangeShapes Go.WideShapes Go.ChangeAt Go.RowKit

/-- The functions that these draws call. -/
def SW : FuncId → List Ty → Option (Ty × Nat) := fun k tys => if k = 39 then sumPick tys else (fun k tys => if k = 40 then sumInt (-1152921504606846976) 1152921504606846976 9 tys else (fun _ _ => none) k tys) k tys
theorem SW_ok (w0 : World) (g : Nat) : SOk SW w0 g 999000 :=
  sok_cons (one_pick w0 g) (sok_cons (one_int (fun v w => by go_simp) (fun w N hN hR => l20work_any hR (by omega))) (sok_nil w0 g 999000))
set_option maxHeartbeats 1000000 in
theorem drawgcdof_any {w : World} {a : Option Addr} {len cap : Nat} {zs : List Int} (hrow : IsRow .u8 w a len cap zs) :
    Calls Try.prog 17 #[.slice a len cap] w (TwoPost (-1152921504606846976) 1152921504606846977 (-1152921504606846976) 1152921504606846976 w) := by
  go_enter Try.func17, Try.ntmps17
  go_wp2_with fail
  refine (open_any hrow).mono ?_
  rintro e w0 ⟨g, rfl, R0⟩
  go_wp2_with fail
  refine (pick_any R0 (by omega) (by omega) (by omega)).mono ?_
  rintro e w1 ⟨x1, hx10, hx11, rfl, R1, G1⟩
  go_wp2_with fail
  refine (pick_any R1 (by omega) (by omega) (by omega)).mono ?_
  rintro e w2 ⟨x2, hx20, hx21, rfl, R2, G2⟩
  have p1 := Int.mul_le_mul_of_nonneg_left (show x2 - 20 ≤ 20 by omega) (show 0 ≤ 1 + x1 by omega)
  have p2 := Int.mul_le_mul_of_nonneg_left (show -20 ≤ x2 - 20 by omega) (show 0 ≤ 1 + x1 by omega)
  go_wp2_with fail
  refine (pick_any R2 (by omega) (by omega) (by omega)).mono ?_
  rintro e w3 ⟨x3, hx30, hx31, rfl, R3, G3⟩
  have p3 := Int.mul_le_mul_of_nonneg_left (show x3 - 20 ≤ 20 by omega) (show 0 ≤ 1 + x1 by omega)
  have p4 := Int.mul_le_mul_of_nonneg_left (show -20 ≤ x3 - 20 by omega) (show 0 ≤ 1 + x1 by omega)
  have RR := Lib.hid (R3.mono (show 0 + 1 + 1 + 1 ≤ 3 by omega))
  clear R0 R1 R2 R3 G1 G2 G3 hrow
  go_wp2_with fail
  generalize (1 + x1) * (x2 - 20) = aa at *
  generalize (1 + x1) * (x3 - 20) = bb at *
  have ha0 : -400 ≤ aa := by omega
  have ha1 : aa ≤ 400 := by omega
  have hb0 : -400 ≤ bb := by omega
  have hb1 : bb ≤ 400 := by omega
  clear p1 p2 p3 p4
  refine wp_region_look (S := SW) (w0 := w) (g := g) (M := 3) (cap := 999000) (c := 40) (fun t => if t = 4 then .rd else if t = 6 then .val (.int (-400) 400) else if t = 7 then .val (.int (-400) 400) else .any)
    [(20, .val (.int (-1152921504606846976) 1152921504606846977)), (21, .val (.int (-1152921504606846976) 1152921504606846976))] (SW_ok _ _) RR.out (by omega) (by kernel_rfl) ?_ ?_
  · intro t
    dsimp only
    repeat' split
    · rename_i h; subst h; rfl
    · rename_i h; subst h; exact ⟨_, rfl, ha0, ha1⟩
    · rename_i h; subst h; exact ⟨_, rfl, hb0, hb1⟩
    · trivial
  · intro vs w2 hv hR hG
    simp only [List.forall_mem_cons, List.not_mem_nil, false_implies, implies_true, and_true] at hv
    obtain ⟨⟨x, hx, x0, x1⟩, ⟨y, hy, y0, y1⟩⟩ := hv
    have HR := Lib.hid hR
    clear hR hG RR
    simp only [putAll, Act.put, Nat.reduceAdd, hx, hy, List.setIfInBounds_toArray, List.set_cons_zero, List.set_cons_succ]
    go_wp2
    go_ret2
    exact ⟨x, y, x0, x1, y0, y1, rfl, HR.out.below⟩

end Go.Proofs.Ytlcmpcjimmdcfaa
