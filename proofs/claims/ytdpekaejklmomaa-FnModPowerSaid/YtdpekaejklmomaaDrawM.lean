/- The drawing functions of moduli and inverses. No condition: contracts for the walks of the laws. -/
import Derived.Test.YtdpekaejklmomaaFlow5
namespace Go.Proofs.Ytdpekaejklmomaa
open Go.ChangeShapes Go.WideShapes Go.ChangeAt Go.RowKit

set_option maxHeartbeats 1000000 in
theorem l20modulus_any {w0 w : World} {g N : Nat} (R0 : Rds w0 w g N) (hN : N ≤ 999000) :
    Calls Try.prog 49 #[.pointer (some ⟨g, 0, none⟩)] w (IntPost w0 w g (N + 2) (0) (1000001)) := by
  have hfin : ∀ (x : Int) (w' : World), 0 ≤ x → x ≤ 1000001 → Rds w0 w' g (N + 2) → w.grownBy w' (some g) → IntPost w0 w g (N + 2) (0) (1000001) (.returned (.int .i64 x)) w' := fun x w' h1 h2 h3 h4 => ⟨x, h1, h2, rfl, h3, h4⟩
  have HF := Lib.hid hfin
  clear hfin
  go_enter Try.func49, Try.ntmps49
  go_wp2_with fail
  refine (pick_any R0 (by omega) (by omega) (by omega)).mono ?_
  rintro e w1 ⟨x1, hx10, hx11, rfl, R1, G1⟩
  go_wp2_with fail
  refine (pick_any ((R1.alloc _).alloc _) (by omega) (by omega) (by omega)).mono ?_
  rintro e w2 ⟨x2, hx20, hx21, rfl, R2, G2⟩
  have hlt := R1.lt
  have bA := ((Blk.new w1 _ _).alloc _).grown G2 (by intro e; injection e with e; omega)
  have bB := (Blk.new (w1.alloc _) _ _).grown G2 (by intro e; injection e with e; simp at e; omega)
  rw [World.size_alloc] at bB
  obtain ⟨v, hv0, hv1, cv⟩ := draw_cell (l := [0, 0, 0, 0, 1, 2, 3, 4, 5]) (lo := 0) (hi := 5) bB (by decide) hx20 (by simpa using hx21)
  obtain ⟨u, hu0, hu1, cu⟩ := draw_cell (l := [2 + x1, 1000000, 97, 0, 1000001, 1]) (lo := 0) (hi := 1000001) bA (by simp only [List.mem_cons, List.not_mem_nil, or_false]; rintro y hy; omega) hv0 (by simp; omega)
  have HG := Lib.hid (grownBy_trans (grownBy_alloc (grownBy_alloc G1 _) _) G2)
  have HR := Lib.hid R2
  clear bA bB G1 R1 G2 R2 R0
  go_wp2
  go_ret
  exact HF.out _ _ hu0 hu1 (HR.out.mono (by omega)) HG.out

/-- The functions that the moduli's draws call. -/
def SM : FuncId → List Ty → Option (Ty × Nat) := fun k tys => if k = 48 then sumPick tys else (fun k tys => if k = 49 then sumInt 0 1000001 2 tys else (fun _ _ => none) k tys) k tys
theorem SM_ok (w0 : World) (g : Nat) : SOk SM w0 g 999000 :=
  sok_cons (one_pick w0 g) (sok_cons (one_int (fun v w => by go_simp) (fun w N hN hR => l20modulus_any hR (by omega))) (sok_nil w0 g 999000))

set_option maxHeartbeats 1000000 in
theorem drawmodinverse_any {w : World} {a : Option Addr} {len cap : Nat} {zs : List Int} (hrow : IsRow .u8 w a len cap zs) :
    Calls Try.prog 21 #[.slice a len cap] w (TwoPost (-1) 994500 0 1000001 w) := by
  have HO := Lib.hid (open_any hrow)
  clear hrow
  go_enter Try.func21, Try.ntmps21
  go_wp2_with fail
  refine HO.out.mono ?_
  rintro e w1 ⟨g, rfl, R⟩
  go_wp2_with fail
  refine wp_region_look (S := SM) (w0 := w) (g := g) (M := 0) (cap := 999000) (c := 20) (fun t => if t = 4 then .rd else .any) [(15, .val (.int (-1) 994500)), (16, .val (.int 0 1000001))] (SM_ok _ _) R (by omega) (by kernel_rfl) ?_ ?_
  · intro t
    dsimp only
    split
    · rename_i h; subst h; rfl
    · trivial
  · intro vs w2 hv hR hG
    simp only [List.forall_mem_cons, List.not_mem_nil, false_implies, implies_true, and_true] at hv
    obtain ⟨⟨x, hx, x0, x1⟩, ⟨y, hy, y0, y1⟩⟩ := hv
    have HR := Lib.hid hR
    clear hR hG R HO
    simp only [putAll, Act.put, Nat.reduceAdd, hx, hy, List.setIfInBounds_toArray, List.set_cons_zero, List.set_cons_succ]
    go_wp2
    go_ret2
    exact ⟨x, y, x0, x1, y0, y1, rfl, HR.out.below⟩
set_option maxHeartbeats 1000000 in
theorem drawmodpower_any {w : World} {a : Option Addr} {len cap : Nat} {zs : List Int} (hrow : IsRow .u8 w a len cap zs) :
    Calls Try.prog 17 #[.slice a len cap] w (ThreePost (-1) 1000000 (-1) 1152921504606846976 0 1000001 w) := by
  have HO := Lib.hid (open_any hrow)
  clear hrow
  go_enter Try.func17, Try.ntmps17
  go_wp2_with fail
  refine HO.out.mono ?_
  rintro e w1 ⟨g, rfl, R⟩
  go_wp2_with fail
  refine wp_region_look (S := SM) (w0 := w) (g := g) (M := 0) (cap := 999000) (c := 20) (fun t => if t = 5 then .rd else .any) [(27, .val (.int (-1) 1000000)), (28, .val (.int (-1) 1152921504606846976)), (29, .val (.int 0 1000001))] (SM_ok _ _) R (by omega) (by kernel_rfl) ?_ ?_
  · intro t
    dsimp only
    split
    · rename_i h; subst h; rfl
    · trivial
  · intro vs w2 hv hR hG
    simp only [List.forall_mem_cons, List.not_mem_nil, false_implies, implies_true, and_true] at hv
    obtain ⟨⟨x, hx, x0, x1⟩, ⟨y, hy, y0, y1⟩, ⟨z, hz, z0, z1⟩⟩ := hv
    have HR := Lib.hid hR
    clear hR hG R HO
    simp only [putAll, Act.put, Nat.reduceAdd, hx, hy, hz, List.setIfInBounds_toArray, List.set_cons_zero, List.set_cons_succ]
    go_wp2
    refine bodyPost_ret (v := .tuple #[.int .i64 x, .int .i64 y, .int .i64 z]) (by simp [results, Try.results17, go_sem]) rfl ?_
    exact ⟨x, y, z, x0, x1, y0, y1, z0, z1, rfl, HR.out.below⟩

end Go.Proofs.Ytdpekaejklmomaa
