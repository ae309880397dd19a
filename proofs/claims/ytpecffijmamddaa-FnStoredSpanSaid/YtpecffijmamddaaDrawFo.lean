/- The drawing function of the law on spans of fractions. No condition: contracts for the walks of the laws. -/
import Derived.Test.YtpecffijmamddaaDrawSt
namespace Go.Proofs.Ytpecffijmamddaa
open Go.ChangeShapes Go.WideShapes Go.ChangeAt Go.RowKit

def FoPost (w : World) (e : Ending) (w' : World) : Prop := ∃ p q a d : Int, (-1 ≤ p ∧ p ≤ 17) ∧ (-1 ≤ q ∧ q ≤ 17) ∧ (-1099511627776 ≤ a ∧ a ≤ 1099511627777) ∧ (0 ≤ d ∧ d ≤ 1099511627777) ∧
  e = .returned (.tuple #[.agg #[.int .i64 p, .int .i64 q], .int .i64 a, .int .i64 d]) ∧ Below w.heap.size w w'
set_option maxHeartbeats 8000000 in
theorem drawfractionof_any {w : World} {a : Option Addr} {len cap : Nat} {zs : List Int} (hrow : IsRow .u8 w a len cap zs) :
    Calls Try.prog 27 #[.slice a len cap] w (FoPost w) := by
  have hB2 : Below w.heap.size w (w.alloc (.cells #[.int .i64 0, .int .i64 0] 36)) := (Below.refl _ w).alloc (Nat.le_refl _) _
  go_enter Try.func27, Try.ntmps27
  go_wp2_with fail
  refine (open_base hB2 hrow).mono ?_
  rintro e w1 ⟨rfl, R0, hb1⟩
  rw [World.size_alloc] at R0
  have hl0 := R0.lt
  have bt := (Blk.new w 36 #[.int .i64 0, .int .i64 0]).below hb1 (by simp <;> omega)
  clear hb1 hB2 hrow
  go_wp2_with fail
  refine (l20format_any R0 (by omega) (by omega) (by omega)).mono ?_
  rintro e w2 ⟨p, q, p0, p1, q0, q1, rfl, R1, G1⟩
  have s1 := G1.size
  have hf2 : w.heap.size + 1 < w2.heap.size := by omega
  have bt := (bt.grown G1 (by intro e; injection e with e; first | omega | (simp at e; omega))).alloc (.cells #[.int .i64 p, .int .i64 q] 36)
  have bf := Blk.new w2 36 #[.int .i64 p, .int .i64 q]
  have RW := R1.alloc (.cells #[.int .i64 p, .int .i64 q] 36)
  go_wp2_with fail
  refine (pick_any RW (by omega) (by omega) (by omega)).mono ?_
  rintro e w3 ⟨x1, hx10, hx11, rfl, R3, G3⟩
  go_wp2_with fail
  refine (pick_any R3 (by omega) (by omega) (by omega)).mono ?_
  rintro e w4 ⟨x2, hx20, hx21, rfl, R4, G4⟩
  go_wp2_with fail
  refine (pick_any ((R4.alloc _).alloc _) (by omega) (by omega) (by omega)).mono ?_
  rintro e w5 ⟨x3, hx30, hx31, rfl, R5, G5⟩
  have hl4 := R4.lt
  have bA := ((Blk.new w4 _ _).alloc _).grown G5 (by intro e; injection e with e; first | omega | (simp at e; omega))
  have bB := (Blk.new (w4.alloc _) _ _).grown G5 (by intro e; injection e with e; first | omega | (simp at e; omega))
  rw [World.size_alloc] at bB
  obtain ⟨v, hv0, hv1, cv⟩ := draw_cell (l := [0, 0, 0, 1, 2, 3, 4]) (lo := 0) (hi := 4) bB (by decide) hx30 (by simpa using hx31)
  obtain ⟨u, u0, u1, cu⟩ := draw_cell (l := [x1 - 128, x2 * 1073741824 - 137438953472, 1099511627776, 1099511627777, -1099511627776]) (lo := -1099511627776) (hi := 1099511627777) bA (by simp only [List.mem_cons, List.not_mem_nil, or_false]; rintro y hy; omega) hv0 (by simp; omega)
  have bt := ((((bt.grown G3 (by intro e; injection e with e; first | omega | (simp at e; omega))).grown G4 (by intro e; injection e with e; first | omega | (simp at e; omega))).alloc (.cells #[.int .i64 (x1 - 128), .int .i64 (x2 * 1073741824 - 137438953472), .int .i64 1099511627776, .int .i64 1099511627777, .int .i64 (-1099511627776)] 3)).alloc (.cells #[.int .i64 0, .int .i64 0, .int .i64 0, .int .i64 1, .int .i64 2, .int .i64 3, .int .i64 4] 3)).grown G5 (by intro e; injection e with e; first | omega | (simp at e; omega))
  have bf := ((((bf.grown G3 (by intro e; injection e with e; first | omega | (simp at e; omega))).grown G4 (by intro e; injection e with e; first | omega | (simp at e; omega))).alloc (.cells #[.int .i64 (x1 - 128), .int .i64 (x2 * 1073741824 - 137438953472), .int .i64 1099511627776, .int .i64 1099511627777, .int .i64 (-1099511627776)] 3)).alloc (.cells #[.int .i64 0, .int .i64 0, .int .i64 0, .int .i64 1, .int .i64 2, .int .i64 3, .int .i64 4] 3)).grown G5 (by intro e; injection e with e; first | omega | (simp at e; omega))
  have RW := R5
  clear R0 R1 R3 R4 R5 G1 G3 G4 G5 bA bB
  go_wp2_with fail
  refine wp_region_lookC (S := SPk) (C := ⟨w.heap.size + 1, [⟨w.heap.size, 36, 2, -1, 17⟩]⟩) (w0 := w) (M := 0 + 7 + 1 + 1 + 1) (cap := 999000) (c := 40) (fun t => if t = 5 then .rd else if t = 6 then .many 2 (-1) 17 else if t = 2 then .out 2 (-1) 17 else if t = 7 then .val (.int (-1099511627776) 1099511627777) else .any) [(17, .val (.int (-1099511627776) 1099511627777)), (18, .val (.int 0 1099511627777))] (SPk_ok _ _) ?_ RW ?_ (by omega) (by kernel_rfl) ?_ ?_
  · refine ⟨fun o ho => ?_, fun o ho o' ho' hh => ?_⟩
    · simp only [List.mem_cons, List.not_mem_nil, or_false] at ho; subst ho; exact ⟨by simp, Nat.le_refl _⟩
    · simp only [List.mem_cons, List.not_mem_nil, or_false] at ho ho'; rw [ho, ho']
  · intro o ho
    simp only [List.mem_cons, List.not_mem_nil, or_false] at ho; subst ho
    refine ⟨_, bt, rfl, fun k hk => ⟨0, ?_, show (-1 : Int) ≤ 0 by decide, show (0 : Int) ≤ 17 by decide⟩⟩
    have hk : k < 2 := hk
    rcases (by omega : k = 0 ∨ k = 1) with rfl | rfl <;> rfl
  · intro t
    dsimp only
    repeat' split
    · rename_i h; subst h; rfl
    · rename_i h; subst h
      refine ⟨_, 0, rfl, ⟨by simp; omega, ?_⟩, fun i hi => ?_⟩
      · intro o ho
        simp only [List.mem_cons, List.not_mem_nil, or_false] at ho; subst ho
        simp; omega
      · rcases (by omega : i = 0 ∨ i = 1) with rfl | rfl
        · exact ⟨p, (blk2 bf).1, by omega, by omega⟩
        · exact ⟨q, (blk2 bf).2.1, by omega, by omega⟩
    · rename_i h; subst h; exact ⟨_, List.mem_cons_self, rfl, rfl, rfl, rfl⟩
    · rename_i h; subst h; exact ⟨u, rfl, u0, u1⟩
    · trivial
  · intro vs wv hv' hK
    simp only [List.forall_mem_cons, List.not_mem_nil, false_implies, implies_true, and_true] at hv'
    obtain ⟨⟨y, hy, y0, y1⟩, ⟨z, hz, z0, z1⟩⟩ := hv'
    obtain ⟨cs, bq, hcs, hall⟩ := hK.outs _ List.mem_cons_self
    obtain ⟨r0, e0, l0, m0⟩ := hall 0 (show 0 < 2 by decide)
    obtain ⟨r1, e1, l1, m1⟩ := hall 1 (show 1 < 2 by decide)
    have k0 := (bq.cell 0).trans e0
    have k1 := (bq.cell 1).trans e1
    dsimp only at k0 k1 l0 l1 m0 m1
    have HR := Lib.hid hK.rd
    clear hK bq hall hcs e0 e1 bt bf RW cv cu
    simp only [putAll, Act.put, Nat.reduceAdd, hy, hz, List.setIfInBounds_toArray, List.set_cons_zero, List.set_cons_succ]
    go_wp2
    refine bodyPost_ret (v := .tuple #[.agg #[.int .i64 r0, .int .i64 r1], .int .i64 y, .int .i64 z]) (by simp [results, Try.results27, go_sem, k0, k1]) rfl ?_
    exact ⟨r0, r1, y, z, ⟨l0, m0⟩, ⟨l1, m1⟩, ⟨y0, y1⟩, ⟨z0, z1⟩, rfl, HR.out.below⟩

end Go.Proofs.Ytpecffijmamddaa
