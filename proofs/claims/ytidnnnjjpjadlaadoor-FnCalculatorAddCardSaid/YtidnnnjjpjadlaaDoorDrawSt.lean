/- Drawn stored numbers. No condition: contracts for the walks of the laws. -/
import Derived.Test.YtidnnnjjpjadlaaDoorDrawFm
import Derived.Test.YtidnnnjjpjadlaaDoorFmt
namespace Go.Proofs.YtidnnnjjpjadlaaDoor
open Go.ChangeShapes Go.WideShapes Go.ChangeAt Go.RowKit

theorem Rds.drewN {w0 w : World} {g N : Nat} (h : Rds w0 w g N) (n : Nat) : Rds w0 (w.drewN n) g N := by
  obtain ⟨h1, h2, a, len, cap, p, h3, h4, h5, h6, h7, h8⟩ := h
  exact ⟨h1, ⟨h2.os, h2.tape, h2.output, h2.size, h2.block⟩, a, len, cap, p, h3, h4, h5, h6, h7, h8⟩
def SPk : FuncId → List Ty → Option (Ty × Nat) := fun k tys => if k = 42 then sumPick tys else (fun _ _ => none) k tys
theorem SPk_ok (w0 : World) (C : Cx) : SOk SPk w0 C 999000 := (sok_cons (one_pick w0 C) (sok_nil w0 C 999000))
set_option maxHeartbeats 4000000 in
theorem l20stored_any {w0 w : World} {g N : Nat} {p q n : Int} (R0 : Rds w0 w g N) (hN : N ≤ 990000) (hn0 : 0 ≤ n) (hn1 : n ≤ 1000) :
    Calls Tryd.prog 26 #[.pointer (some ⟨g, 0, none⟩), .agg #[.int .i64 p, .int .i64 q], .int .i64 n] w (IntPost w0 w g (N + 24) (-268435457) 9223372036854775807) := by
  have hlt := R0.lt
  have hb0 := R0.below.size
  have hfin : ∀ (x : Int) (w' : World) (M : Nat), -268435457 ≤ x → x ≤ 9223372036854775807 → Rds w0 w' g M → M ≤ N + 24 → w.grownBy w' (some g) → IntPost w0 w g (N + 24) (-268435457) 9223372036854775807 (.returned (.int .i64 x)) w' := fun x w' M h1 h2 h3 hM h4 => ⟨x, h1, h2, rfl, h3.mono hM, h4⟩
  have HF := Lib.hid hfin
  clear hfin
  cases hv : fmtB p q
  · go_enter Tryd.func26, Tryd.ntmps26
    go_wp2_with fail
    refine (fmvb_spec hv _).mono ?_
    rintro e w1 ⟨rfl, mm, rfl⟩
    go_wp2_with fail
    refine (pick_any (((R0.alloc _).alloc _).drewN _) (by omega) (by omega) (by omega)).mono ?_
    rintro e w2 ⟨x, x0, x1, rfl, R2, G2⟩
    have GW := grownBy_trans (grownBy_drewN (grownBy_alloc (grownBy_alloc (grown_refl w (some g)) _) _) _) G2
    have HG := Lib.hid GW
    have HR := Lib.hid R2
    clear GW R2 G2 R0
    go_wp2_with fail
    go_ret
    exact HF.out _ _ _ (by omega) (by omega) HR.out (by omega) HG.out
  · obtain ⟨h1, h2, h3, h4⟩ := fmtB_mk hv
    obtain ⟨b1, b2⟩ := pw_bd h1 h2 h3 h4
    unfold pw at b1 b2
    go_enter Tryd.func26, Tryd.ntmps26
    go_wp2_with fail
    refine (fmvb_spec hv _).mono ?_
    rintro e w1 ⟨rfl, mm, rfl⟩
    have RW := ((R0.alloc (.cells #[.int .i64 p, .int .i64 q] 24)).alloc (.cells #[.int .i64 p, .int .i64 q] 24)).drewN mm
    have GW := grownBy_drewN (grownBy_alloc (grownBy_alloc (grown_refl w (some g)) (.cells #[.int .i64 p, .int .i64 q] 24)) (.cells #[.int .i64 p, .int .i64 q] 24)) mm
    have bf := (((Blk.new w 24 #[.int .i64 p, .int .i64 q]).alloc (.cells #[.int .i64 p, .int .i64 q] 24)).drewN mm)
    generalize ((w.alloc (.cells #[.int .i64 p, .int .i64 q] 24)).alloc (.cells #[.int .i64 p, .int .i64 q] 24)).drewN mm = W at *
    obtain ⟨c0, c1, c2, c3, lf⟩ := blk2 bf
    go_wp2_with fail
    obtain ⟨m, hm⟩ : ∃ m : Int, m = 2 ^ (p + q).toNat - 1 := ⟨_, rfl⟩
    rw [← hm]
    have m0 : 1 ≤ m := by omega
    have m1 : m ≤ 268435455 := by omega
    clear hm b1 b2
    refine wp_region_look (S := SPk) (w0 := w0) (g := g) (M := N) (cap := 999000) (c := 20) (fun t => if t = 0 then .rd else if t = 4 then .many 2 0 16 else if t = 7 then .val (.int 1 268435455) else .any)
      [(35, .val (.int (-268435456) 536870910))] (SPk_ok _ _) RW (by omega) (by kernel_rfl) ?_ ?_
    · intro t
      dsimp only
      repeat' split
      · rename_i h; subst h; rfl
      · rename_i h; subst h; exact ⟨_, 0, rfl, ⟨by dsimp only; omega, by simp⟩, fun i hi => by rcases (by omega : i = 0 ∨ i = 1) with rfl | rfl; exact ⟨p, c0, by omega, by omega⟩; exact ⟨q, c1, by omega, by omega⟩⟩
      · rename_i h; subst h; exact ⟨_, rfl, m0, m1⟩
      · trivial
    · intro vs wv hv hR hG
      simp only [List.forall_mem_cons, List.not_mem_nil, false_implies, implies_true, and_true] at hv
      obtain ⟨x, hx, x0, x1⟩ := hv
      have RV := hR; have GV := grownBy_trans GW hG; clear hR hG RW GW c0 c1 c2 c3 lf bf
      simp only [putAll, Act.put, Nat.reduceAdd, hx, List.setIfInBounds_toArray, List.set_cons_zero, List.set_cons_succ]
    
      go_wp2_with fail
      all_goals
        refine (odd_any0 RV (by omega) hn0 (by omega)).mono ?_
        rintro e w6 ⟨o, rfl, R6, G6⟩
        have G7 := grownBy_trans GV G6
        cases o
        · have HR := Lib.hid R6
          have HG := Lib.hid G7
          clear R6 G6 G7 GV RV
          go_wp2_with fail
          go_ret
          exact HF.out _ _ _ (by omega) (by omega) HR.out (by omega) HG.out
        · go_wp2_with fail
          refine (pick_any (R6.alloc _) (by omega) (by omega) (by omega)).mono ?_
          rintro e w8 ⟨y, y0, y1, rfl, R8, G8⟩
          have hl6 := R6.lt
          have bA := (Blk.new w6 _ _).grown G8 (by intro e; injection e with e; first | omega | (simp at e; omega))
          obtain ⟨u, u0, u1, cu⟩ := draw_cell (l := [m + 1, -m - 2, 9223372036854775807]) (lo := -268435457) (hi := 9223372036854775807) bA (by simp only [List.mem_cons, List.not_mem_nil, or_false]; rintro y hy; omega) y0 (by simpa using y1)
          have HR := Lib.hid R8
          have HG := Lib.hid (grownBy_trans (grownBy_alloc G7 _) G8)
          clear R6 G6 G7 GV RV bA R8 G8
          go_wp2_with fail
          go_ret
          exact HF.out _ _ _ u0 u1 HR.out (by omega) HG.out

end Go.Proofs.YtidnnnjjpjadlaaDoor
