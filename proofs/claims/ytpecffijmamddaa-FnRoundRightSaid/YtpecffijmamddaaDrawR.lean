/- The drawing functions of the law on proved quotients. No condition: contracts for the walks of the laws. -/
import Derived.Test.YtpecffijmamddaaDrawS2
import Derived.Test.YtpecffijmamddaaFlow5
namespace Go.Proofs.Ytpecffijmamddaa
open Go.ChangeShapes Go.WideShapes Go.ChangeAt Go.RowKit

def SW : FuncId → List Ty → Option (Ty × Nat) := fun k tys => if k = 39 then sumPick tys else (fun k tys => if k = 75 then sumInt (-1152921504606846976) 1152921504606846976 9 tys else (fun _ _ => none) k tys) k tys
theorem SW_ok (w0 : World) (g : Nat) : SOk SW w0 g 999000 := (sok_cons (one_pick w0 g) (sok_cons (one_int (fun v w => by go_simp) (fun w N hN hR => l20work_any hR (by omega))) (sok_nil w0 g 999000)))

set_option maxHeartbeats 4000000 in
theorem drawfloordiv_any {w : World} {a : Option Addr} {len cap : Nat} {zs : List Int} (hrow : IsRow .u8 w a len cap zs) :
    Calls Try.prog 69 #[.slice a len cap] w (TwoPost (-1152921504606846977) 9223372036854775807 0 1152921504606846977 w) := by
  go_enter Try.func69, Try.ntmps69
  go_wp2_with fail
  refine (open_any hrow).mono ?_
  rintro e w0 ⟨g, rfl, R0⟩
  go_wp2_with fail
  refine (l20work_any R0 (by omega)).mono ?_
  rintro e w1 ⟨a, a0, a1, rfl, R1, G1⟩
  have RR := Lib.hid (R1.mono (show 0 + 9 ≤ 10 by omega))
  clear R0 R1 G1 hrow
  go_wp2_with fail
  refine wp_region_look (S := SW) (w0 := w) (g := g) (M := 10) (cap := 999000) (c := 40) (fun t => if t = 4 then .rd else .any)
    [(17, .val (.int 0 1152921504606846977))] (SW_ok _ _) RR.out (by omega) (by kernel_rfl) ?_ ?_
  · intro t
    dsimp only
    repeat' split
    · rename_i h; subst h; rfl
    · trivial
  · intro vs wv hv hR hG
    simp only [List.forall_mem_cons, List.not_mem_nil, false_implies, implies_true, and_true] at hv
    obtain ⟨b, hb, b0, b1⟩ := hv
    have RR := Lib.hid hR
    clear hR hG
    simp only [putAll, Act.put, Nat.reduceAdd, hb, List.setIfInBounds_toArray, List.set_cons_zero, List.set_cons_succ]
    go_wp2_with fail
    refine (odd_any RR.out (by omega) (by omega) (by omega)).mono ?_
    rintro e w2 ⟨o, rfl, R2, G2⟩
    have RR := Lib.hid R2
    clear R2 G2
    cases o
    · go_wp2_with fail
      go_ret2
      exact ⟨a, b, by omega, by omega, b0, b1, rfl, RR.out.below⟩
    · go_wp2_with fail
      refine (pick_any (RR.out.alloc _) (by omega) (by omega) (by omega)).mono ?_
      rintro e w3 ⟨x, x0, x1, rfl, R3, G3⟩
      have hlt := RR.out.lt
      have bA := (Blk.new w2 _ _).grown G3 (by intro e; injection e with e; omega)
      obtain ⟨u, u0, u1, cu⟩ := draw_cell (l := [1152921504606846977, -1152921504606846977, 9223372036854775807]) (lo := -1152921504606846977) (hi := 9223372036854775807) bA (by decide) x0 (by simpa using x1)
      have HR := Lib.hid R3
      clear bA R3 G3
      go_wp2
      go_ret2
      exact ⟨u, b, u0, u1, b0, b1, rfl, HR.out.below⟩

end Go.Proofs.Ytpecffijmamddaa
