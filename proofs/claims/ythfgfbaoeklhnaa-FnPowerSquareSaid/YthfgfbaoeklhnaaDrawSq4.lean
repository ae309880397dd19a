/- The drawing function of the law on powers of square tables. No condition: contracts for the walks of the laws. -/
import Derived.Test.YthfgfbaoeklhnaaDrawSq2
import Derived.Test.YthfgfbaoeklhnaaFlow5
namespace Go.Proofs.Ythfgfbaoeklhnaa
open Go.ChangeShapes Go.WideShapes Go.ChangeAt Go.RowKit


def SqPowPost (w : World) (en : Ending) (w' : World) : Prop := ∃ a b c d e : Int, -1 ≤ e ∧ e ≤ 101 ∧ en = .returned (.tuple #[.agg #[.int .i64 a, .int .i64 b, .int .i64 c, .int .i64 d], .int .i64 e]) ∧ Below w.heap.size w w'
def SPk : FuncId → List Ty → Option (Ty × Nat) := fun k tys => if k = 51 then sumPick tys else (fun _ _ => none) k tys
theorem SPk_ok (w0 : World) (C : Cx) : SOk SPk w0 C 999000 := (sok_cons (one_pick w0 C) (sok_nil w0 C 999000))
set_option maxHeartbeats 2000000 in
theorem drawpowersquare_any {w : World} {a : Option Addr} {len cap : Nat} {zs : List Int} (hrow : IsRow .u8 w a len cap zs) :
    Calls Try.prog 40 #[.slice a len cap] w (SqPowPost w) := by
  have hB2 : Below w.heap.size w (w.alloc (.cells #[.int .i64 0, .int .i64 0, .int .i64 0, .int .i64 0] 25)) := (Below.refl _ w).alloc (Nat.le_refl _) _
  go_enter Try.func40, Try.ntmps40
  go_wp2_with fail
  refine (open_base hB2 hrow).mono ?_
  rintro e w1 ⟨rfl, R0, hb1⟩
  rw [World.size_alloc] at R0
  go_wp2_with fail
  refine (l20squaretable_any R0 (by omega) (by omega) (by omega)).mono ?_
  rintro e w2 ⟨a, b, c, d, ha, hb, hc, hd, rfl, R1, G1⟩
  go_wp2_with fail
  refine (pick_any (R1.alloc _) (by omega) (by omega) (by omega)).mono ?_
  rintro e w3 ⟨x0, x0h0, x0h1, rfl, R2, G2⟩
  have hg2 := R1.lt
  have bz := ((((Blk.new w 25 #[.int .i64 0, .int .i64 0, .int .i64 0, .int .i64 0]).below hb1 (by simp)).grown G1 (by intro e; injection e with e; omega)).alloc (.cells #[.int .i64 a, .int .i64 b, .int .i64 c, .int .i64 d] 25)).grown G2 (by intro e; injection e with e; omega)
  have bs := (Blk.new w2 25 #[.int .i64 a, .int .i64 b, .int .i64 c, .int .i64 d]).grown G2 (by intro e; injection e with e; omega)
  have q0 : ¬ w.heap.size = w2.heap.size := by omega
  have q0' : ¬ w2.heap.size = w.heap.size := by omega
  obtain ⟨c0, c1, c2, c3, -, -, -, -, ls⟩ := blk4 bs
  obtain ⟨c0, c1, c2, c3, f0, f1, f2, f3, ls⟩ := blk4 bs
  by_cases h3 : x0 = 0
  · subst h3
    go_wp2_with fail
    have bs' := ((((bs.set 0 (.int .i64 1)).set 1 (.int .i64 1)).set 2 (.int .i64 1)).set 3 (.int .i64 0))
    have bz' := ((((bz.far (p := ⟨w2.heap.size, 0, none⟩) (by dsimp only; omega) (.int .i64 1)).far (p := ⟨w2.heap.size, 1, none⟩) (by dsimp only; omega) (.int .i64 1)).far (p := ⟨w2.heap.size, 2, none⟩) (by dsimp only; omega) (.int .i64 1)).far (p := ⟨w2.heap.size, 3, none⟩) (by dsimp only; omega) (.int .i64 0))
    have hw2 : w.heap.size ≤ w2.heap.size := by omega
    have R3 := ((((R2.setCell (q := ⟨w2.heap.size, 0, none⟩) hw2 (by dsimp only; omega) (.int .i64 1)).setCell (q := ⟨w2.heap.size, 1, none⟩) hw2 (by dsimp only; omega) (.int .i64 1)).setCell (q := ⟨w2.heap.size, 2, none⟩) hw2 (by dsimp only; omega) (.int .i64 1)).setCell (q := ⟨w2.heap.size, 3, none⟩) hw2 (by dsimp only; omega) (.int .i64 0))
    have bs : Blk _ w2.heap.size 25 #[.int .i64 1, .int .i64 1, .int .i64 1, .int .i64 0] := bs'
    generalize ((((w3.setCell ⟨w2.heap.size, 0, none⟩ (.int .i64 1)).setCell ⟨w2.heap.size, 1, none⟩ (.int .i64 1)).setCell ⟨w2.heap.size, 2, none⟩ (.int .i64 1)).setCell ⟨w2.heap.size, 3, none⟩ (.int .i64 0)) = W at *
    clear c0 c1 c2 c3 f0 f1 f2 f3 ls
    obtain ⟨c0, c1, c2, c3, -, -, -, -, ls⟩ := blk4 bs
    obtain ⟨d0, d1, d2, d3, e0, e1, e2, e3, lz⟩ := blk4 bz'
    have hgW := R3.lt
    have n2 := Nat.ne_of_lt ls
    have n2' := Nat.ne_of_gt ls
    have nz := Nat.ne_of_lt lz
    have nz' := Nat.ne_of_gt lz
    have RR := Lib.hid (R3.mono (show 0 + 8 + 1 ≤ 100 by omega))
    have BS := Lib.hid bs
    have BZ := Lib.hid bz'
    clear bs bz R0 R1 R2 bz' R3 G1 G2 hb1 hB2 hrow ha hb hc hd bs'
    have hgq : w.heap.size + 1 < w2.heap.size := hg2
    refine wp_region_lookC (S := SPk) (C := ⟨w.heap.size + 1, [⟨w.heap.size, 25, 4, -9223372036854775808, 9223372036854775807⟩]⟩) (w0 := w) (M := 100) (cap := 999000) (c := 20)
      (fun t => if t = 4 then .rd else if t = 5 then .many 4 (-9223372036854775808) 9223372036854775807 else if t = 2 then .out 4 (-9223372036854775808) 9223372036854775807 else .any) [(14, .val (.int (-1) 101))] (SPk_ok _ _) ?_ RR.out ?_ (by omega) (by kernel_rfl) ?_ ?_
    · refine ⟨fun o ho => ?_, fun o ho o' ho' _ => ?_⟩
      · simp only [List.mem_cons, List.not_mem_nil, or_false] at ho; subst ho; exact ⟨by simp, Nat.le_refl _⟩
      · simp only [List.mem_cons, List.not_mem_nil, or_false] at ho ho'; rw [ho, ho']
    · intro o ho
      simp only [List.mem_cons, List.not_mem_nil, or_false] at ho; subst ho
      refine ⟨_, BZ.out, rfl, fun k hk => ⟨0, ?_, show (-9223372036854775808 : Int) ≤ 0 by decide, show (0 : Int) ≤ 9223372036854775807 by decide⟩⟩
      have hk : k < 4 := hk
      rcases (by omega : k = 0 ∨ k = 1 ∨ k = 2 ∨ k = 3) with rfl | rfl | rfl | rfl <;> rfl
    · intro t
      dsimp only
      repeat' split
      · rename_i h; subst h; rfl
      · rename_i h; subst h
        refine ⟨_, 0, rfl, ⟨by simp; omega, by simp; omega⟩, fun i hi => ?_⟩
        rcases (by omega : i = 0 ∨ i = 1 ∨ i = 2 ∨ i = 3) with rfl | rfl | rfl | rfl
        · exact ⟨1, c0, by omega, by omega⟩
        · exact ⟨1, c1, by omega, by omega⟩
        · exact ⟨1, c2, by omega, by omega⟩
        · exact ⟨0, c3, by omega, by omega⟩
      · rename_i h; subst h; exact ⟨_, List.mem_cons_self, rfl, rfl, rfl, rfl⟩
      · trivial
    · intro vs wv hv hK
      simp only [List.forall_mem_cons, List.not_mem_nil, false_implies, implies_true, and_true] at hv
      obtain ⟨x, hx, x0, x1⟩ := hv
      obtain ⟨cs, bq, hcs, hall⟩ := hK.outs _ List.mem_cons_self
      obtain ⟨z0, y0, -⟩ := hall 0 (show 0 < 4 by decide)
      obtain ⟨z1, y1, -⟩ := hall 1 (show 1 < 4 by decide)
      obtain ⟨z2, y2, -⟩ := hall 2 (show 2 < 4 by decide)
      obtain ⟨z3, y3, -⟩ := hall 3 (show 3 < 4 by decide)
      have k0 := (bq.cell 0).trans y0
      have k1 := (bq.cell 1).trans y1
      have k2 := (bq.cell 2).trans y2
      have k3 := (bq.cell 3).trans y3
      dsimp only at k0 k1 k2 k3
      have HR := Lib.hid hK.rd
      clear hK bq hall hcs y0 y1 y2 y3 BS BZ RR c0 c1 c2 c3 d0 d1 d2 d3 e0 e1 e2 e3
      simp only [putAll, Act.put, Nat.reduceAdd, hx, List.setIfInBounds_toArray, List.set_cons_zero, List.set_cons_succ]
      go_wp2
      refine bodyPost_ret (v := .tuple #[.agg #[.int .i64 z0, .int .i64 z1, .int .i64 z2, .int .i64 z3], .int .i64 x]) (by simp [results, Try.results40, go_sem, k0, k1, k2, k3]) rfl ?_
      exact ⟨z0, z1, z2, z3, x, x0, x1, rfl, HR.out.below⟩
  · have h3' : (x0 == 0) = false := by simp; omega
    go_wp2_with fail
    obtain ⟨W, hW⟩ : ∃ W, W = w3 := ⟨_, rfl⟩
    rw [← hW] at bs bz R2
    rw [← hW]
    clear hW c0 c1 c2 c3 f0 f1 f2 f3 ls
    obtain ⟨c0, c1, c2, c3, -, -, -, -, ls⟩ := blk4 bs
    obtain ⟨d0, d1, d2, d3, e0, e1, e2, e3, lz⟩ := blk4 bz
    have hgW := R2.lt
    have n2 := Nat.ne_of_lt ls
    have n2' := Nat.ne_of_gt ls
    have nz := Nat.ne_of_lt lz
    have nz' := Nat.ne_of_gt lz
    have RR := Lib.hid (R2.mono (show 0 + 8 + 1 ≤ 100 by omega))
    have BS := Lib.hid bs
    have BZ := Lib.hid bz
    clear bs bz R0 R1 R2   G1 G2 hb1 hB2 hrow
    have hgq : w.heap.size + 1 < w2.heap.size := hg2
    refine wp_region_lookC (S := SPk) (C := ⟨w.heap.size + 1, [⟨w.heap.size, 25, 4, -9223372036854775808, 9223372036854775807⟩]⟩) (w0 := w) (M := 100) (cap := 999000) (c := 20)
      (fun t => if t = 4 then .rd else if t = 5 then .many 4 (-9223372036854775808) 9223372036854775807 else if t = 2 then .out 4 (-9223372036854775808) 9223372036854775807 else .any) [(14, .val (.int (-1) 101))] (SPk_ok _ _) ?_ RR.out ?_ (by omega) (by kernel_rfl) ?_ ?_
    · refine ⟨fun o ho => ?_, fun o ho o' ho' _ => ?_⟩
      · simp only [List.mem_cons, List.not_mem_nil, or_false] at ho; subst ho; exact ⟨by simp, Nat.le_refl _⟩
      · simp only [List.mem_cons, List.not_mem_nil, or_false] at ho ho'; rw [ho, ho']
    · intro o ho
      simp only [List.mem_cons, List.not_mem_nil, or_false] at ho; subst ho
      refine ⟨_, BZ.out, rfl, fun k hk => ⟨0, ?_, show (-9223372036854775808 : Int) ≤ 0 by decide, show (0 : Int) ≤ 9223372036854775807 by decide⟩⟩
      have hk : k < 4 := hk
      rcases (by omega : k = 0 ∨ k = 1 ∨ k = 2 ∨ k = 3) with rfl | rfl | rfl | rfl <;> rfl
    · intro t
      dsimp only
      repeat' split
      · rename_i h; subst h; rfl
      · rename_i h; subst h
        refine ⟨_, 0, rfl, ⟨by simp; omega, by simp; omega⟩, fun i hi => ?_⟩
        rcases (by omega : i = 0 ∨ i = 1 ∨ i = 2 ∨ i = 3) with rfl | rfl | rfl | rfl
        · exact ⟨a, c0, by omega, by omega⟩
        · exact ⟨b, c1, by omega, by omega⟩
        · exact ⟨c, c2, by omega, by omega⟩
        · exact ⟨d, c3, by omega, by omega⟩
      · rename_i h; subst h; exact ⟨_, List.mem_cons_self, rfl, rfl, rfl, rfl⟩
      · trivial
    · intro vs wv hv hK
      simp only [List.forall_mem_cons, List.not_mem_nil, false_implies, implies_true, and_true] at hv
      obtain ⟨x, hx, x0, x1⟩ := hv
      obtain ⟨cs, bq, hcs, hall⟩ := hK.outs _ List.mem_cons_self
      obtain ⟨z0, y0, -⟩ := hall 0 (show 0 < 4 by decide)
      obtain ⟨z1, y1, -⟩ := hall 1 (show 1 < 4 by decide)
      obtain ⟨z2, y2, -⟩ := hall 2 (show 2 < 4 by decide)
      obtain ⟨z3, y3, -⟩ := hall 3 (show 3 < 4 by decide)
      have k0 := (bq.cell 0).trans y0
      have k1 := (bq.cell 1).trans y1
      have k2 := (bq.cell 2).trans y2
      have k3 := (bq.cell 3).trans y3
      dsimp only at k0 k1 k2 k3
      have HR := Lib.hid hK.rd
      clear hK bq hall hcs y0 y1 y2 y3 BS BZ RR c0 c1 c2 c3 d0 d1 d2 d3 e0 e1 e2 e3
      simp only [putAll, Act.put, Nat.reduceAdd, hx, List.setIfInBounds_toArray, List.set_cons_zero, List.set_cons_succ]
      go_wp2
      refine bodyPost_ret (v := .tuple #[.agg #[.int .i64 z0, .int .i64 z1, .int .i64 z2, .int .i64 z3], .int .i64 x]) (by simp [results, Try.results40, go_sem, k0, k1, k2, k3]) rfl ?_
      exact ⟨z0, z1, z2, z3, x, x0, x1, rfl, HR.out.below⟩

end Go.Proofs.Ythfgfbaoeklhnaa
